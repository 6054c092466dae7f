/- TreeWalk: a part of its proof; conditions: its statement's. -/
import Derived.Test.YtdonpgpfplgigaaGreatM04
import Derived.Test.YtdonpgpfplgigaaGreatM02
import Derived.Lib.BytesEntry
import Derived.Laws.Externs
import Derived.WalkKit
import Derived.ProofKit
set_option linter.defProp false
namespace Go.Proofs.YtdonpgpfplgigaaGreat.Am
open Go
def uj:=@Tryz.underlying24
def KV:=@Tryz.func160
variable {X Y:aE} {cap:Cap} {C:gE} {δ PJ:Dk} {ε ag:bE} {Q:Ex→List (Nat×V)→H→Prop} {cl:Go.Call} {h:H} {n e pg:Int} {P':Int→List Nat} {R:LD→Prop} {μ:Lg} {d:List (Int×(Nat×Bool))} {now aF:List (Int×List Nat)} {cs cs' wq qw:List (List Nat)} {E:List (Nat×V)} {S:List aE} {b l was data b0 c PK b' c' ps pO nR nT:List Nat} {g i a r k q dO aN id bk tx pv nx kd N z j K B link extra off p1 lo L n2 M p8:Nat} {F:Nat→List (List Nat)→Prop} {π cz:Pl} {P:Program} {α β:Type} {t:TypeId} {w x u wh di kv dt:V}
def jN (m:List Fm): Nat:=(m.map (·.changed)).count true
theorem oF {f g:Fm}: ∀ {m:List Fm} {i:Nat},m[i]?=some f→jN (m.set i g)+f.changed.toNat=jN m+g.changed.toNat:=by
 intro m
 induction m with
 |nil=>simp
 |cons x m I =>
  intro i h
  cases i<;>grind[jN]
theorem Ga {g:Fm}(I:g.changed=false): ∀ {m:List Fm} {i:Nat},jN (m.set i g)≤jN m:=by
 intro m i
 cases h:m[i]? with
 |none =>
  grind[List.set_eq_of_length_le]
 |some f =>
  have:=oF (g:=g) h
  grind
def dz (ε:bE): Nat:=ε.2.2.waiting.length+jN ε.1.aj
theorem tw : ε.2.2.waiting.length≤dz ε:=CU _ _
theorem gY.count (I:gY π cz): jN cz.aj=jN π.aj:=by
 have:cz.aj.map (·.changed)=π.aj.map (·.changed):=by
  refine ny fun i => ?_
  rw[jW,jW]
  cases h:π.aj[i]? with
  |none =>
   have h1:π.aj.length≤i:=by grind
   have:cz.aj[i]?=none:=by simp[I.len,h1]
   rw[this]
  |some f =>
   obtain⟨t,ht⟩:=I.get i f h
   rw[ht];rfl
 simp only[jN,this]
theorem KW (h:(δ.eE n b).1≠0): (δ.eE n b).2.waiting=δ.waiting:=by
 unfold Dk.eE at h ⊢
 split
 ·rfl
 ·rename_i I
  split
  ·rfl
  ·rename_i h2
   split
   ·rfl
   grind
theorem U3 : dz (outF ε i).2≤dz ε:=by
 grind[outF,dz,B5,KW,MG,oF]
theorem Cc {f:Fm}: jN (eA π i f).aj≤jN π.aj:=Ga rfl
theorem gZ.dz (hr:gZ ε n e b ag): Am.dz ag≤Am.dz ε:=by
 have uC:∀ {cz:Pl},gY ε.1 cz→∀i,Am.dz (outF (cz,ε.2) i).2≤Am.dz ε:=fun {cz} I i=>by
  have:=U3 (ε:=(cz,ε.2)) (i:=i)
  refine cY this ?_
  simp only[Am.dz,I.count]
  exact aI _
 cases hr with
 |arg _=>simp
 |IP i f h1 h2 hl hf =>
  grind[oF,Am.dz]
 |out cz i f h1 h2 hl I hf hh he=>grind
 |read cz i f h1 h2 hl I hf hh he hr=>exact cY (CP Cc _) (uC I i)
 |bad cz i f h1 h2 hl I hf hh he hr hc=>exact cY (CP Cc _) (uC I i)
 |load cz i f h1 h2 hl I hf hh he hr hc=>exact cY (CP (cY (Ga rfl) Cc) _) (uC I i)
theorem Gb : jN (unpinF π n).2.aj=jN π.aj:=by
 grind[unpinF,oF]
theorem oQ.dz (hr:oQ ε n e b ag): Am.dz ag≤Am.dz ε:=by
 cases hr with
 |dead _=>simp
 |l9 e b ag I hr he=>exact hr.dz
 |Aj b ag I hr he=>have:=hr.dz;grind[Am.dz,Gb]
 |read b ag I hr he=>have:=hr.dz;grind[Am.dz,Gb]
theorem GRd.dz {cG:Bool}(hr:GRd ε now cG n e b ag): Am.dz ag≤Am.dz ε:=by
 cases hr with
 |arg _=>simp
 |cG _ _ _=>simp
 |own _ _ _ _ _=>simp
 |read e b ag I h2 h3 hl hr=>exact hr.dz
theorem wm.dz {cG:Bool}(hr:wm ε now cG n b e aF ag): Am.dz ag≤Am.dz ε:=by
 cases hr with
 |may e c ag hr he=>exact hr.dz
 |bad c ag hr I=>exact hr.dz
 |done c ag hr I=>exact hr.dz
inductive mL (now:List (Int×List Nat)): List Int→bE→Int→List fL→bE→Prop where
 |nil (ε:bE):mL now [] ε 0 [] ε
 |err (n:Int) (l:List Int) (ε:bE) (e:Int) (b:List Nat) (ag:bE) (hr:oQ ε n e b ag) (he:e≠0):mL now (n::l) ε e [] ag
 |part (n:Int) (l:List Int) (ε:bE) (was b:List Nat) (ag:bE) (c:List fL) (e:Int) (cs:List fL) (lY:bE) (hr:oQ ε n 0 was ag) (hb:lookL n now=some b) (hd:(lookL n ag.1.dU).isSome=true) (hc:R9 n was b c) (hl:c.length≤512) (ht:mL now l ag e cs lY):mL now (n::l) ε e (c++cs) lY
 |whole (n:Int) (l:List Int) (ε:bE) (was b:List Nat) (ag:bE) (e:Int) (cs:List fL) (lY:bE) (hr:oQ ε n 0 was ag) (hb:lookL n now=some b) (hd:(lookL n ag.1.dU).isSome=false) (ht:mL now l ag e cs lY):mL now (n::l) ε e (⟨n,0,true,b⟩::cs) lY
theorem mL.qA {l:List Int}{cs:List fL}(hr:mL now l ε e cs ag)(h:kR ε): kR ag:=by
 induction hr with
 |nil ε=>exact h
 |err n l ε e b ag hr he=>exact hr.qA h
 |part n l ε was b ag c e cs I hr hb hd hc hl ht ih=>exact ih (hr.qA h)
 |whole n l ε was b ag e cs I hr hb hd ht ih=>exact ih (hr.qA h)
theorem mL.dz {l:List Int}{cs:List fL}(hr:mL now l ε e cs ag): Am.dz ag≤Am.dz ε:=by
 induction hr with
 |nil ε=>simp
 |err n l ε e b ag hr he=>exact hr.dz
 |part n l ε was b ag c e cs I hr hb hd hc hl ht ih=>exact cY ih hr.dz
 |whole n l ε was b ag e cs I hr hb hd ht ih=>exact cY ih hr.dz
theorem wu {b:Nat}{v:V}(I:look E a=some v)(h2:look E b=some w): resLE P E h [.tmp a,.tmp b]=some (.aT [v,w]):=by grind[resLE,mapO,resE]
section
variable {told:cE} {p:Nat} {op v:V} {cG:Bool}
theorem EB (I:W told)(s:Sat h S): Call ⟨Tryz.prog,told⟩ 62 [.map id] h fun v h'=>∃b,v=.fn (.func 144) [] [.ptr b 0]∧Sat h' (pt b (.cells 1 [.map id] false)::S):=by
 refine Call.of_wp (I.free _ rfl) Tryz.func62 rfl rfl (zg rfl ?_)
 refine au.b_ s rfl rfl rfl (eU rfl rfl) (fun p1 h s => ?_)
 exact zk 4 rfl (zo rfl (Fz rfl rfl) (zk 2 rfl (WP.ret ⟨aa,_,rfl,_,rfl,s⟩)))
theorem Sa (I:W told)(s:Sat h (iI g a now cG::S))(hm:now.length≤1048576)(hk:∀n∈now.map (·.1),(Lit.int .i64 n).wf=true):
  Call ⟨Tryz.prog,told⟩ 136 [.ptr g 0] h fun v h'=>Sat h' (.arr 1 v (jl (gC now))::iI g a now cG::S):=by
 obtain⟨nv,s⟩:=fN.1 s
 obtain⟨wo,rfl⟩:=Kx s (j:=1) rfl
 refine Call.of_wp (I.free _ rfl) Tryz.func136 rfl rfl (zK 8 rfl (zY s 0 s8 qG rfl (zc rfl (EB I s) ?_)))
 rintro v h ⟨b,rfl,s⟩
 refine zc rfl (B9 I (s.ae [0,1]) (by decide) hm hk) ?_
 intro kv h s
 exact zk 2 rfl (WP.ret ⟨aa,_,rfl,(fN.2 ⟨.map wo,(s.ae [3,2,0]).del 3⟩).ae [1]⟩)
noncomputable def cgL : Code:=eu [1,1,0,1,0,0] ((Tryz.f58.body).getD .skip)
theorem KX (hT:W told){ks:List Int}(hks:ks.length≤65536)(xb:∀n∈ks,(lookL n now).isSome=true)(qM:∀e∈now,e.2.length=512): ∀(j i:Nat) (acc:List fL) (av:V) (cs:List V) (ε:bE) (h:H) (E:List (Nat×V)) (Q:Ex→List (Nat×V)→H→Prop),i+j=ks.length →
  kR ε→dz ε≤268435456→acc.length≤512*i →
  Sat h (.arr 4 av cs::fC cs acc::iI g a now cG::gD a p q r op data aN::gn r p q ε.1::dm q p ε.2.1::bZ p ε.2.2::.arr 1 kv (jl ks)::S) →
  Has E [(0,.ptr g 0),(4,av),(13,kv),(14,.int .i64 ks.length),(15,.int .i64 i)] →
  (∀e c ag E' h',mL now (ks.drop i) ε e c ag→e≠0→look E' 2=some .aR→look E' 3=some (.int .i64 e)→Sat h' (iI g a now cG::gD a p q r op data aN::gn r p q ag.1::dm q p ag.2.1::bZ p ag.2.2::S)→Q .ret E' h') →
  (∀c ag E' h' w9 cs',mL now (ks.drop i) ε 0 c ag→acc.length+c.length≤512*ks.length→Has E' [(4,w9)]→Sat h' (.arr 4 w9 cs'::fC cs' (acc++c)::iI g a now cG::gD a p q r op data aN::gn r p q ag.1::dm q p ag.2.1::bZ p ag.2.2::S)→Q (.exit 0) E' h') →
  WP ⟨Tryz.prog,told⟩ 65 (.loop cgL) E h Q:=by
 intro j
 induction j with
 |zero =>
  intro i acc av cs ε h E Q hj cA hw Rr s hE hr hx
  refine WP.loop (WP.has hE (zg rfl (zC rfl aO (by grind) ?_)))
  refine zk 3 rfl (WP.exit ?_)
  rw[pI (by omega)] at hx
  have s1:=s.del 7
  dsimp only[aL] at s1
  refine hx [] ε _ _ av cs (.nil ε) (by grind) ⟨rfl,aa⟩ ?_
  rw[fe]
  exact s1
 |succ j ih =>
  intro i acc av cs ε h E Q hj cA hw Rr s hE hr hx
  have hn:ks[i]?=some (ks[i]'(by omega)):=aG _
  have BA:ks[i]'(by omega)∈ks:=CT _
  have u_:ks.drop i=ks[i]'(by omega)::ks.drop (i+1):=pH (by omega)
  generalize (ks[i]'(by omega))=n at hn BA u_
  have hc:(jl ks)[i]?=some (.int .i64 n):=by simp[jl,hn]
  obtain⟨b,hb⟩:=Option.isSome_iff_exists.1 (xb n BA)
  have JL:=qM _ (nZ hb)
  simp only at JL
  rw[u_] at hr hx
  obtain⟨id,off,e1,e2⟩:=jL (P:=Tryz.prog) s (k:=7) rfl hc gP nY
  refine WP.loop (WP.has hE (zg rfl (zB rfl aO (by grind) ?_)))
  refine zk 5 rfl (WP.block (zg rfl (zo rfl (bS (r:=.ptr id off) rfl rfl e1) (zl rfl (e2 _ b9) ?_))))
  obtain⟨nv,s⟩:=fN.1 (s.ae [2])
  dsimp only[bringA,getA,aL] at s
  refine zk 6 rfl (zY s 0 rD BQ rfl (zm rfl (zc rfl (Ey (n:=n) hT (s.ae [4,4,4,4]) cA.ok cA.pins (cY tw hw)) ?_)))
  rintro v h ⟨e,w,ag,ju,(⟨he,rfl,s⟩|⟨rfl,u,rfl,s⟩)⟩
  ·dsimp only[bringA,getA,aL] at s
   refine zk 10 rfl (zB rfl aH (by grind) ?_)
   refine zk 8 rfl (WP.ret (hr e [] ag _ _ (.err n _ ε e w ag ju he) he rfl rfl ?_))
   have s:=fN.2 ⟨nv,s.ae [4,4]⟩
   dsimp only[bringA,getA,aL] at s
   exact((s.del 7).del 6).del 5
  ·dsimp only[bringA,getA,aL] at s
   have uJ:=ju.qA cA
   have tY:=cY ju.dz hw
   have hlen:=ju.len cA
   refine zk 10 rfl (zC rfl aH (rfl) ?_)
   have s:=s.eW
   have s:=s.ae [5,5,1,1,1,1,1,1,1,0]
   dsimp only[bringA,getA,aL] at s
   rcases rH (n:=n) (fun _ _=>aJ.cg _ _) (s.ae [1]) ud cm lq with⟨g1,g2,_⟩|⟨nw,b',g1,_,g2,s2⟩
   ·grind
   rw[hb] at g1
   have:=bW g1
   subst this
   refine zk 7 rfl (zY s 0 s8 qG rfl (zm rfl (zo rfl (lW rfl rfl g2) ?_)))
   obtain⟨dv,s⟩:=eB.1 (s2.ae [3])
   dsimp only[bringA,getA,aL] at s
   have s:=s.ae [4]
   dsimp only[bringA,getA,aL] at s
   refine zk 6 rfl (zY s 0 rD BQ rfl (zn rfl (zY s 1 vD Dj rfl (zm rfl (zc rfl (aaO (n:=n) hT (s.ae [5])) ?_)))))
   rintro v h ⟨rfl,s⟩
   dsimp only[bringA,getA,aL] at s
   refine zk 10 rfl ?_
   cases hd:(lookL n ag.1.dU).isSome with
   |true =>
    refine zK 6 rfl (zc rfl (R_ hT (u:=u) (v:=nw) (pg:=n) (s.ae [11,4]) (bj _ _) (bj _ _) hlen JL) ?_)
    rintro rv h ⟨rcs,c,hc,gy,s⟩
    dsimp only[bringA,getA,aL] at s
    obtain⟨i1,dy,fy,o8⟩:=EA
    have ads:cs.length=acc.length*4:=by
     obtain⟨a,b,q1,q2,q3⟩:=s.at (k:=12) rfl
     exact tq q3
    have aeY:rcs.length=c.length*4:=by
     obtain⟨a,b,q1,q2,q3⟩:=s.at (k:=1) rfl
     exact tq q3
    obtain⟨w9,h2,sB,s2⟩:=h_ (s.ae [11,0]) lX dy wU fy (by omega) rfl (by decide) (by omega)
    dsimp only[bringA,getA,aL] at s2
    refine au.any rfl rfl rfl (OpR.of (R:=fun v h'=>v=w9∧h'=h2) (j_ rfl rfl sB) ⟨rfl,rfl⟩) ?_
    rintro v' h' ⟨rfl,rfl⟩
    refine za rfl (zv (zr rfl (zb rfl (by exact aQ (aq (by omega) (by omega))) ?_)))
    refine zm rfl (zv ?_)
    have s3:Sat _ (fC cs acc::fC rcs c::_):=s2.ae [12,2]
    have s4:=s3.two (C:=fC (cs++rcs) (acc++c)) (aJ.sP _ _) (aJ.sP _ _) fun a b q1 q2=>Eu q1 q2
    dsimp only[bringA,getA,aL] at s4
    have s5:=eB.2 ⟨dv,s4.ae [7,7]⟩
    dsimp only[bringA,getA,aL] at s5
    have s6:=fN.2 ⟨nv,s5.ae [7,7]⟩
    dsimp only[bringA,getA,aL] at s6
    have s7:=(((s6.ae [3,2,0,0,3,3,3,3]).del 10).del 9).del 8
    dsimp only[bringA,getA,aL] at s7
    refine ih (i+1) (acc++c) _ _ ag _ _ Q (by omega) uJ tY (by grind) s7 ⟨rfl,rfl,rfl,rfl,rfl,aa⟩ (fun e c' I E' h' ht he l2 l3 s' => ?_) (fun c' I E' h' U4 U5 ht hl eN s' => ?_)
    ·exact hr e _ I E' h' (.part n _ ε w b ag c e c' I ju hb hd hc gy ht) he l2 l3 s'
    ·refine hx (c++c') I E' h' U4 U5 (.part n _ ε w b ag c 0 c' I ju hb hd hc gy ht) (by grind) eN ?_<;>grind
   |false =>
    refine zK 5 rfl (zc rfl (u9 hT (s.ae [4]) (bj _ _) (by omega)) ?_)
    intro cw h s
    dsimp only[bringA,getA,aL] at s
    obtain⟨wid,_,Cb,_,rfl,_⟩:=s.eG (by omega)
    have s:=s.eW
    refine zo rfl (cQ rfl (by rw[Pm];rfl)) ?_
    obtain⟨rv,h1,wj,s1⟩:=lR (P:=Tryz.prog) (k:=4) (x:=.agg [.int .i64 n,.int .i64 0,.bool true,.sl wid 0 b.length Cb]) s lX wU Dp rfl (by decide) (by decide) rfl rfl
    dsimp only[V.cells] at s1
    refine au.any rfl rfl rfl (OpR.of (R:=fun v h'=>v=rv∧h'=h1) (ku rfl wj) ⟨rfl,rfl⟩) ?_
    rintro v' h' ⟨rfl,rfl⟩
    obtain⟨i1,dy,fy,o8⟩:=EA
    have ads:cs.length=acc.length*4:=by
     obtain⟨a,b,q1,q2,q3⟩:=s1.at (k:=11) rfl
     exact tq q3
    obtain⟨w9,h2,sB,s2⟩:=h_ (s1.ae [10,0]) lX dy wU fy (by omega) rfl (by decide) (by grind)
    dsimp only[bringA,getA,aL] at s2
    refine au.any rfl rfl rfl (OpR.of (R:=fun v h'=>v=w9∧h'=h2) (j_ rfl rfl sB) ⟨rfl,rfl⟩) ?_
    rintro v' h' ⟨rfl,rfl⟩
    refine za rfl (zv (zr rfl (zb rfl (by exact aQ (aq (by omega) (by omega))) ?_)))
    refine zm rfl (zv ?_)
    have s3:Sat _ (fC cs acc::.cg (.sl wid 0 b.length Cb) b::_):=s2.ae [11,2]
    have s4:=s3.two (C:=fC (cs++[.int .i64 n,.int .i64 0,.bool true,.sl wid 0 b.length Cb]) (acc++[⟨n,0,true,b⟩])) (aJ.sP _ _) (aJ.cg _ _) fun a b q1 q2=>Eu q1 ⟨⟨⟨rfl,rfl,rfl⟩,q2⟩,aa⟩
    have s5:=eB.2 ⟨dv,s4.ae [6,6]⟩
    have s6:=fN.2 ⟨nv,s5.ae [6,6]⟩
    have s7:=(((s6.ae [3,2,0,0,2,2,2,2]).del 10).del 9).del 8
    dsimp only[bringA,getA,aL] at s7
    refine ih (i+1) (acc++[⟨n,0,true,b⟩]) _ _ ag _ _ Q (by omega) uJ tY (by grind) s7 ⟨rfl,rfl,rfl,rfl,rfl,aa⟩ (fun e c' I E' h' ht he l2 l3 s' => ?_) (fun c' I E' h' U4 U5 ht hl eN s' => ?_)
    ·exact hr e _ I E' h' (.whole n _ ε w b ag e c' I ju hb hd ht) he l2 l3 s'
    ·refine hx (⟨n,0,true,b⟩::c') I E' h' U4 U5 (.whole n _ ε w b ag 0 c' I ju hb hd ht) (by grind) eN ?_<;>grind
theorem PL (hT:W told)(s:Sat h (iI g a now cG::gD a p q r op data aN::gn r p q ε.1::dm q p ε.2.1::bZ p ε.2.2::S))(cA:kR ε)(hw:dz ε≤268435456)(I:∀e∈now,e.2.length=512)(hm:now.length≤65536)(hk:∀n∈now.map (·.1),(Lit.int .i64 n).wf=true):
  Call ⟨Tryz.prog,told⟩ 58 [.ptr g 0] h fun v h'=>∃e c ag,mL now (gC now) ε e c ag ∧
   ((e≠0∧v=.aT [.aR,.int .i64 e]∧Sat h' (iI g a now cG::gD a p q r op data aN::gn r p q ag.1::dm q p ag.2.1::bZ p ag.2.2::S)) ∨
    (e=0∧c.length≤33554432∧∃av cs,v=.aT [av,.int .i64 0]∧Sat h' (.arr 4 av cs::fC cs c::iI g a now cG::gD a p q r op data aN::gn r p q ag.1::dm q p ag.2.1::bZ p ag.2.2::S))):=by
 have hl:(gC now).length=now.length:=by rw[gC,(iT _).length_eq,bX]
 refine Call.of_wp (hT.free _ rfl) Tryz.func58 rfl rfl (zK 13 rfl (zc rfl (Sa hT s (by omega) hk) ?_))
 intro kv h s
 refine zo rfl (aD rfl rfl rfl (s.fW (n:=(gC now).length) (j:=0) rfl (by simp[jl]) (by decide) gP)) ?_
 refine zk 2 rfl (WP.block ?_)
 have s1:=(((s.gQ aa).mJ (k:=4)).dQ fun a b q=>q).ae [0,0,1,1,1,1,1,0]
 refine KX hT (ks:=gC now) (now:=now) (by omega) (fun n hn => ?_) I (gC now).length 0 [] .aR [] ε _ _ _ (by omega) cA hw (by simp) s1 ⟨rfl,rfl,rfl,rfl,rfl,aa⟩ (fun e c ag E' h' hr he l2 l3 s' => ?_) (fun c ag E' h' av cs hr gy eN s' => ?_)
 ·have:n∈now.map (·.1):=(iT _).mem_iff.1 hn
  cases hq:lookL n now<;>grind[uZ]
 ·exact⟨aa,_,wu l2 l3,e,c,ag,hr,.inl ⟨he,rfl,s'⟩⟩
 ·have s:=s'
  exact WP.has eN (zK 6 rfl (WP.ret ⟨aa,_,rfl,0,c,ag,hr,.inr ⟨rfl,by omega,_,_,rfl,s⟩⟩))
end
theorem Cd {n:Nat}(I:cF b=true): (eO b n).length=512:=by
 have h1:=Af (n:=n) (jK I)
 rw[eO,bD (by rw[cJ];omega),h1]
def kf (π:Pl)(n:Int)(b:List Nat)(bk:Nat): Int×Pl :=
 (if (mW π n b bk).1=0 then(unpinF (mW π n b bk).2 n).1 else(mW π n b bk).1,(unpinF (mW π n b bk).2 n).2)
def HP (π:Pl)(n:Int)(i:Nat)(f:Fm)(b:List Nat)(bk:Nat): Pl :=
 { π with aj:=π.aj.set i { f with b:=eO b bk,changed:=true,pins:=0 },dU:=cD n (oo π n bk,true) π.dU }
theorem Gc {f:Fm}(hl:lookL n π.bY=some (i:Int))(I:π.aj[i]?=some f)(hp:f.pins=1)(hg:cF b=true): kf π n b bk=(0,HP π n i f b bk):=by
 have h1:=(wk hl I hp).1
 have hi:=(List.getElem?_eq_some_iff.1 I).1
 have e1:mW π n b bk=(0,{ π with aj:=π.aj.set i { f with b:=eO b bk,changed:=true },dU:=cD n (oo π n bk,true) π.dU }):=by
  simp only[mW,h1,I,hg,Bool.true_eq_false,gK]
 have e2:=(wk (π:={ π with aj:=π.aj.set i { f with b:=eO b bk,changed:=true },dU:=cD n (oo π n bk,true) π.dU }) (n:=n) (f:={ f with b:=eO b bk,changed:=true }) hl (jF hi) hp).2
 simp only[kf,e1,e2,dw,List.set_set]
 rfl
theorem Sb {f:Fm}(hl:lookL n π.bY=some (i:Int))(I:π.aj[i]?=some f)(hp:f.pins=1)(hg:cF b=false): kf π n b bk=(4,{ π with aj:=π.aj.set i { f with pins:=0 } }):=by
 have h1:=(wk hl I hp).1
 have e1:mW π n b bk=(4,π):=by simp only[mW,h1,I,hg,dw]
 have e2:=(wk hl I hp).2
 simp only[kf,e1,e2]
 rfl
theorem YS (h:π.Ok): (mW π n b bk).2.Ok:=by
 unfold mW
 split
 ·exact h
 ·split
  ·exact h
  ·rename_i f hf
   have hm:=aM hf
   split
   ·exact h
   ·rename_i I
    have I:cF b=true:=by simpa using I
    exact h.set h.bY (by simp only[Cd I];omega) (h.pins f hm)
theorem gZ.put (hr:gZ ε n 0 b0 ag)(h:kR ε): kR ((kf ag.1 n b bk).2,ag.2)∧Am.dz ((kf ag.1 n b bk).2,ag.2)≤Am.dz ε+1∧(cF b=true→(kf ag.1 n b bk).1=0):=by
 have I:=hr.ok h.ok h.pins
 have ve:=(hr.full h.ok.dk h.full).1
 obtain⟨i,f,h1,h2,h3,h4,h5⟩:=hr.at h.pins
 have hm:=aM h2
 have Ap:=hr.dz
 cases hg:cF b with
 |true =>
  rw[Gc h1 h2 h3 hg]
  refine⟨⟨⟨I.pl.set I.pl.bY (by simp only[Cd hg];omega) (by simp),I.lg,I.dk⟩,h5 _ rfl,ve.set h2 rfl fun _=>Cd hg⟩,?_,fun _=>rfl⟩
  have h6:=oF (g:={ f with b:=eO b bk,changed:=true,pins:=0 }) h2
  simp only[Bool.toNat_true] at h6
  simp only[Am.dz,HP] at Ap ⊢
  omega
 |false =>
  rw[Sb h1 h2 h3 hg]
  refine⟨⟨⟨I.pl.set I.pl.bY (I.pl.len f hm) (by simp),I.lg,I.dk⟩,h5 _ rfl,ve.set h2 rfl fun hl=>hl⟩,?_,fun h=>by cases h⟩
  have h6:=oF (g:={ f with pins:=0 }) h2
  simp only[Am.dz] at Ap h6 ⊢
  omega
inductive PtR (now:List (Int×List Nat))(bk:Nat): List Int→bE→Int→bE→Prop where
 |nil (ε:bE):PtR now bk [] ε 0 ε
 |l9 (n:Int) (l:List Int) (ε:bE) (e:Int) (b:List Nat) (ag:bE) (hr:gZ ε n e b ag) (he:e≠0):PtR now bk (n::l) ε e ag
 |bad (n:Int) (l:List Int) (ε:bE) (b0 b:List Nat) (ag:bE) (hr:gZ ε n 0 b0 ag) (hb:lookL n now=some b) (he:(kf ag.1 n b bk).1≠0):PtR now bk (n::l) ε (kf ag.1 n b bk).1 ((kf ag.1 n b bk).2,ag.2)
 |put (n:Int) (l:List Int) (ε:bE) (b0 b:List Nat) (ag:bE) (e:Int) (lY:bE) (hr:gZ ε n 0 b0 ag) (hb:lookL n now=some b) (he:(kf ag.1 n b bk).1=0) (ht:PtR now bk l ((kf ag.1 n b bk).2,ag.2) e lY):PtR now bk (n::l) ε e lY
theorem PtR.qA {l:List Int}(hr:PtR now bk l ε e ag)(h:kR ε): kR ag:=by
 induction hr with
 |nil ε=>exact h
 |l9 n l ε e b ag hr he=>exact⟨hr.ok h.ok h.pins,hr.NN he h.pins,(hr.full h.ok.dk h.full).1⟩
 |bad n l ε b0 b ag hr hb he=>exact(hr.put h).1
 |put n l ε b0 b ag e I hr hb he ht ih=>exact ih (hr.put h).1
theorem PtR.dz {l:List Int}(hr:PtR now bk l ε e ag)(h:kR ε): Am.dz ag≤Am.dz ε+l.length:=by
 induction hr with
 |nil ε=>exact aI _
 |l9 n l ε e b ag hr he=>have:=hr.dz;omega
 |bad n l ε b0 b ag hr hb he=>have:=(hr.put (b:=b) (bk:=bk) h).2.1;simp only[bq];omega
 |put n l ε b0 b ag e I hr hb he ht ih=>have h1:=ih (hr.put h).1;have:=(hr.put (b:=b) (bk:=bk) h).2.1;simp only[bq];omega
theorem acq {c:Nat}{es:jf}{kt et:TypeId}{k:IntKind}{z:V}(hg:T.get h.tr id=some (.map (es.map RD) c))(he:lookE n es=some u)(hu:Tryz.prog.underlying t=some (.map kt et))(hk:Tryz.prog.underlying kt=some (.int k))(hz:zeroT Tryz.prog et=some z):
  gL Tryz.prog h t (.map id) (.int .i64 n) false=some u:=by
 have hi:=ua (n:=n) es 0
 simp only[gL,lookupV,hu,hk,hz,hg,keyBeq,ff,ah,yN]
 cases I:idxE n es 0 with
 |none=>rw[I] at hi;rw[he] at hi;cases hi
 |some q=>rw[I] at hi;rw[he] at hi;obtain⟨j,w⟩:=q;have:=bW hi;simp only at this;subst this;rfl
section
variable {told:cE} {p:Nat} {op v:V} {cG:Bool}
noncomputable def dnL : Code:=eu [1,1,1,1,1,1,1,1,0,1,0,0] ((Tryz.f18.body).getD .skip)
theorem Sc (hT:W told){ks:List Int}{dv:V}{wo c:Nat}{es:jf}(hks:ks.length≤65536)(xb:∀n∈ks,(lookL n now).isSome=true)(qM:∀e∈now,e.2.length=512): ∀(j i:Nat) (ε:bE) (h:H) (E:List (Nat×V)) (Q:Ex→List (Nat×V)→H→Prop),i+j=ks.length →
  kR ε→dz ε+j≤268435456 →
  Sat h (pt g (.cells 3 [.ptr a 0,.map wo,.bool cG] false)::Kw wo es c::jq (fun v b=>.cg v b) es now::pt a (.cells 6 (NM a p q r op dv aN) false)::gn r p q ε.1::dm q p ε.2.1::bZ p ε.2.2::.arr 1 kv (jl ks)::S) →
  Has E [(0,.ptr g 0),(6,.ptr a 0),(8,.int .u64 (bk:Int)),(73,kv),(74,.int .i64 ks.length),(75,.int .i64 i)] →
  (∀e ag E' h',PtR now bk (ks.drop i) ε e ag→e≠0→look E' 4=some (.int .u64 0)→look E' 5=some (.int .i64 e)→Sat h' (pt g (.cells 3 [.ptr a 0,.map wo,.bool cG] false)::Kw wo es c::jq (fun v b=>.cg v b) es now::pt a (.cells 6 (NM a p q r op dv aN) false)::gn r p q ag.1::dm q p ag.2.1::bZ p ag.2.2::S)→Q .ret E' h') →
  (∀ag E' h',PtR now bk (ks.drop i) ε 0 ag→Has E' [(8,.int .u64 (bk:Int))]→Sat h' (pt g (.cells 3 [.ptr a 0,.map wo,.bool cG] false)::Kw wo es c::jq (fun v b=>.cg v b) es now::pt a (.cells 6 (NM a p q r op dv aN) false)::gn r p q ag.1::dm q p ag.2.1::bZ p ag.2.2::S)→Q (.exit 1) E' h') →
  WP ⟨Tryz.prog,told⟩ 118 (.loop dnL) E h Q:=by
 intro j
 induction j with
 |zero =>
  intro i ε h E Q hj I hw s hE hr hx
  refine WP.loop (WP.has hE (zg rfl (zC rfl aO (by simp<;>omega) ?_)))
  refine zk 3 rfl (WP.exit ?_)
  rw[pI (by omega)] at hx
  exact hx ε _ _ (.nil ε) ⟨rfl,aa⟩ (s.del 7)
 |succ j ih =>
  intro i ε h E Q hj I hw s hE hr hx
  have hn:ks[i]?=some (ks[i]'(by omega)):=aG _
  have BA:ks[i]'(by omega)∈ks:=CT _
  have u_:ks.drop i=ks[i]'(by omega)::ks.drop (i+1):=pH (by omega)
  generalize (ks[i]'(by omega))=n at hn BA u_
  have hc:(jl ks)[i]?=some (.int .i64 n):=by simp[jl,hn]
  obtain⟨b,hb⟩:=Option.isSome_iff_exists.1 (xb n BA)
  have JL:=qM _ (nZ hb)
  simp only at JL
  rw[u_] at hr hx
  obtain⟨id,off,e1,e2⟩:=jL (P:=Tryz.prog) s (k:=7) rfl hc gP nY
  refine WP.loop (WP.has hE (zg rfl (zB rfl aO (by simp<;>omega) ?_)))
  refine zk 5 rfl (WP.block (zg rfl (zo rfl (bS (r:=.ptr id off) rfl rfl e1) (zl rfl (e2 _ b9) (zk 7 rfl (zY s 3 vD Dj rfl (zm rfl (zc rfl (R4 (n:=n) hT (s.ae [4,4,4]) I.ok.pl I.pins I.ok.lg I.ok.dk (by have:=tw (ε:=ε);omega)) ?_))))))))
  rintro v h ⟨e,b0,ag,Gd,(⟨he,rfl,s⟩|⟨rfl,u0,rfl,s⟩)⟩
  ·dsimp only[bringA,getA,aL] at s
   refine zk 9 rfl (zB rfl aH (by simp;exact he) ?_)
   exact zk 8 rfl (WP.ret (hr e ag _ _ (.l9 n _ ε e b0 ag Gd he) he rfl rfl ((s.ae [3,3,3,3,0,0,0]).del 7)))
  ·dsimp only[bringA,getA,aL] at s
   have s:=s.drop
   have Aq:=Gd.put (b:=b) (bk:=bk) I
   have jU:=Gd.ok I.ok I.pins
   refine zk 9 rfl (zC rfl aH (rfl) (zk 4 rfl ?_))
   have s1:Sat h (jq (fun v b=>.cg v b) es now::_):=s.ae [5]
   obtain⟨_,_,_,_,q3⟩:=s1.at (k:=0) rfl
   rcases u7 (n:=n) q3 with⟨_,q4⟩|⟨u,b',g1,g2,_⟩
   ·rw[hb] at q4;cases q4
   rw[hb] at g2
   have:=bW g2
   subst this
   have s2:=(s1.dup (aJ.UA (fun _ _=>aJ.cg _ _) _ _)).dQ (B:=.cg u b) fun a' b' h'=>by
    rcases u7 (n:=n) h' with⟨_,q4⟩|⟨u',b'',g1',g2',g3'⟩
    ·rw[hb] at q4;cases q4
    ·rw[g1] at g1';rw[hb] at g2'
     have h5:=bW g1'
     have h6:=bW g2'
     subst h5;subst h6
     exact g3'
   dsimp only[bringA,getA,aL] at s2
   obtain⟨uid,aeZ,ae0,rfl⟩:=iE (s2.aC (k:=0) rfl (bj _ _)) (by omega)
   have s:=s2.ae [2,0]
   dsimp only[bringA,getA,aL] at s
   have s0:=s
   refine WP.drawn [af,af,af,af,af,af,af,af,af,af,af,af,af,af] rfl (by kernel_rfl) (by kernel_rfl) ?_
   refine zM rfl (zN rfl (zF rfl (vD _ _) (zL rfl (s.ld (k:=7) rfl Dj rfl) (zM rfl (zM rfl (zN rfl (zF rfl (s8 _ _) (zL rfl (s.ld (k:=5) rfl qG rfl) (zM rfl (zO rfl (lW rfl rfl (acq (s.row (k:=6) rfl) g1 ud cm lq)) (zM rfl (aB.any rfl rfl rfl rfl (OpR.call rfl rfl rfl rfl (YM (n:=n) (bk:=bk) (b:=b) hT s (bj _ _) jU.pl (by omega))) ?_))))))))))))
   rintro v h ⟨rfl,s⟩
   refine zA rfl ?_
   refine aB.nil ⟨⟨aa,aa,aa,aa,aa,aa,aa,aa,aa,aa,aa,aa,aa,aa,aa⟩,?_⟩
   refine zK 5 rfl (zY s 7 vD Dj rfl (zm rfl (zc rfl (KR (n:=n) hT s (YS jU.pl)) ?_)))
   rintro v h ⟨rfl,s⟩
   refine zk 5 rfl ?_
   by_cases hg:(mW ag.1 n b bk).1=0
   ·have Ge:(kf ag.1 n b bk).1=(unpinF (mW ag.1 n b bk).2 n).1:=by simp only[kf,hg,dw]
    have AZ:(kf ag.1 n b bk).2=(unpinF (mW ag.1 n b bk).2 n).2:=rfl
    rw[←Ge,←AZ] at *
    refine zB rfl c8 (by simp;exact hg) ?_
    refine zk 9 rfl ?_
    by_cases he:(kf ag.1 n b bk).1=0
    ·skip
     refine zC rfl aH (by simp;exact he) ?_
     refine zv (zj rfl (WP.skip (zr rfl (zb rfl (by exact aQ (aq (by omega) (by omega))) ?_))))
     refine zm rfl (zv ?_)
     have s9:=(s.ae [5,5,2,4,0,1,1,1]).del 8
     refine ih (i+1) ((kf ag.1 n b bk).2,ag.2) _ _ Q (by omega) Aq.1 (by have h9:dz ((kf ag.1 n b bk).2,ag.2)≤dz ε+1:=Aq.2.1;omega) s9 ⟨rfl,rfl,rfl,rfl,rfl,rfl,aa⟩ (fun e lY E' h' ht qn l4 l5 s' => ?_) (fun lY E' h' ht eN s' => ?_)
     ·exact hr e lY E' h' (.put n _ ε b0 b ag e lY Gd hb he ht) qn l4 l5 s'
     ·exact hx lY E' h' (.put n _ ε b0 b ag 0 lY Gd hb he ht) eN s'
    ·skip
     refine zB rfl aH (by simp;exact he) ?_
     exact zk 8 rfl (WP.ret (hr _ _ _ _ (.bad n _ ε b0 b ag Gd hb he) he rfl rfl (((s.ae [5,5,2,4,0,1,1,1]).del 8).del 7)))
   ·have Ge:(kf ag.1 n b bk).1=(mW ag.1 n b bk).1:=by simp only[kf,hg,gK]
    have AZ:(kf ag.1 n b bk).2=(unpinF (mW ag.1 n b bk).2 n).2:=rfl
    rw[←Ge] at hg
    refine zC rfl c8 (by simp;rw[←Ge];exact hg) ?_
    refine zk 6 rfl (zB rfl aH (by simp;rw[←Ge];exact hg) ?_)
    refine zk 8 rfl (WP.ret (hr _ _ _ _ (.bad n _ ε b0 b ag Gd hb hg) hg rfl (by rw[Ge];rfl) ?_))
    exact((s.ae [5,5,2,4,0,1,1,1]).del 8).del 7
end
theorem AY.fit {now:List Nat}{l:List fL}(hr:AY pg was now i l)(hn:now.length=512)(h0:0≤pg)(h1:pg<65536): ∀c∈l,c.Ok∧c.b.length≤512:=by
 induction hr with
 |done i h=>intro c I;cases I
 |skip i l h he hr ih=>exact ih
 |take i e l h2 h3 _ _ hr ih =>
  intro c I
  rcases List.mem_cons.1 I with rfl|I
  ·have hl:((now.take e).drop i).length=e-i:=by simp;omega
   refine⟨⟨h0,h1,by simp,by simp only;omega,by simp only[hl];omega,by simp⟩,by simp only[hl];omega⟩
  ·exact ih c I
theorem R9.fit {now:List Nat}{l:List fL}(hr:R9 pg was now l)(hn:now.length=512)(I:0≤pg)(h1:pg<65536): ∀c∈l,c.Ok∧c.b.length≤512:=by
 obtain⟨m,h2,rfl⟩:=hr
 split
 ·intro c hc
  rw[List.mem_singleton.1 hc]
  exact⟨⟨I,h1,by simp,by simp,by simp,by simp⟩,by simp⟩
 ·exact h2.fit hn I h1
theorem mL.fit {l:List Int}{cs:List fL}(hr:mL now l ε e cs ag)(qM:∀x∈now,x.2.length=512)(hl:∀n∈l,0≤n∧n<65536): ∀c∈cs,c.Ok∧c.b.length≤512:=by
 induction hr with
 |nil ε=>intro c hc;cases hc
 |err n l ε e b ag hr he=>intro c hc;cases hc
 |part n l ε was b ag c e cs lY hr hb hd hc gy ht ih =>
  intro x I
  have hn:=hl n bB
  rcases List.mem_append.1 I with I|I
  ·exact hc.fit (qM _ (nZ hb)) hn.1 hn.2 x I
  ·exact ih (fun m hm=>hl m (bA _ hm)) x I
 |whole n l ε was b ag e cs lY hr hb hd ht ih =>
  intro x I
  have hn:=hl n bB
  have hb:=qM _ (nZ hb)
  rcases List.mem_cons.1 I with rfl|I
  ·exact⟨⟨hn.1,hn.2,by simp,by simp,by simp only at hb ⊢;omega,fun _=>⟨rfl,hb⟩⟩,by simp only at hb ⊢;omega⟩
  ·exact ih (fun m hm=>hl m (bA _ hm)) x I
theorem xg : ∀(f n:Nat),(digits f n).length≤f+1:=by
 intro f
 induction f with
 |zero=>intro n;simp[digits]
 |succ f I =>
  intro n
  unfold digits
  split
  ·simp
  ·have:=I (n/128)
   simp only[bq]
   omega
theorem aaQ {c:fL}(I:c.b.length≤512): (o_ c).length≤543:=by
 have h1:=xg 9 c.bM.toNat
 have h2:=xg 9 c.pos.toNat
 have h3:=xg 9 c.b.length
 simp only[o_,aX,bq,cj]
 omega
theorem YT : ∀ {l:List fL},(∀c∈l,c.b.length≤512)→(l.flatMap o_).length≤543*l.length:=by
 intro l
 induction l with
 |nil=>intro _;simp
 |cons c l I =>
  intro h
  have h1:=aaQ (h c bB)
  have h2:=I fun x hx=>h x (bA _ hx)
  simp only[gi,aX,bq]
  omega
theorem YU {l:List fL}(hl:l.length≤33554432)(h:∀c∈l,c.Ok∧c.b.length≤512)(F5:tx<18446744073709551616)(W8:pv<18446744073709551616)(W9:nx<18446744073709551616)(hd:data.length≤35184372088832): F6 tx pv nx data l:=by
 have h2:=YT fun c I=>(h c I).2
 refine⟨⟨by omega,fun c I=>by have:=(h c I).2;omega,fun c I => ?_⟩,F5,W8,W9,by omega⟩
 have:=(h c I).1
 simp only[fL.Ok] at this
 omega
theorem U6 {l:List fL}{kd:Int}(I:1≤kd∧kd≤9)(h:∀c∈l,c.Ok∧c.b.length≤512): iG kd l=true:=by
 simp only[iG,bQ,jX,oA]
 exact⟨I,fun c hc=>(h c hc).1⟩
inductive uk (ε:bE)(now:List (Int×List Nat))(kd:Int)(tx pv nx:Nat)(data:List Nat)(sR:Nat): Nat→Int→Bool→bE→Prop where
 |arg (h:¬(1≤kd∧kd≤7)∨0<sR):uk ε now kd tx pv nx data sR 0 1 false ε
 |dead (h1:1≤kd) (h2:kd≤7) (h3:sR=0) (h:ε.2.2.dead=true):uk ε now kd tx pv nx data sR 0 9 false ε
 |sP (e:Int) (c:List fL) (ag:bE) (h1:1≤kd) (h2:kd≤7) (h3:sR=0) (h:ε.2.2.dead=false) (hc:mL now (gC now) ε e c ag) (he:e≠0):uk ε now kd tx pv nx data sR 0 e false ag
 |app (c:List fL) (ag:bE) (h1:1≤kd) (h2:kd≤7) (h3:sR=0) (h:ε.2.2.dead=false) (hc:mL now (gC now) ε 0 c ag) (he:(b6 ag.2 kd tx pv nx data c).1.2≠0):uk ε now kd tx pv nx data sR 0 (b6 ag.2 kd tx pv nx data c).1.2 false (ag.1,(b6 ag.2 kd tx pv nx data c).2)
 |put (c:List fL) (ag:bE) (e:Int) (lY:bE) (h1:1≤kd) (h2:kd≤7) (h3:sR=0) (h:ε.2.2.dead=false) (hc:mL now (gC now) ε 0 c ag) (ha:(b6 ag.2 kd tx pv nx data c).1.2=0) (hp:PtR now (b6 ag.2 kd tx pv nx data c).1.1 (gC now) (ag.1,(b6 ag.2 kd tx pv nx data c).2) e lY) :
   uk ε now kd tx pv nx data sR (if e=0 then(b6 ag.2 kd tx pv nx data c).1.1 else 0) e true lY
structure xh (ε ag:bE): Prop where
 base:ag.2.1.base=ε.2.1.base
 b:ag.2.1.b=ε.2.1.b
 dJ:ag.2.1.dJ=ε.2.1.dJ
 check:ag.2.1.check=ε.2.1.check
 log:ag.2.2.log=ε.2.2.log
 room:ag.2.2.room=ε.2.2.room
 bG:ag.2.2.bG=ε.2.2.bG
theorem xh.refl (ε:bE): xh ε ε:=⟨rfl,rfl,rfl,rfl,rfl,rfl,rfl⟩
theorem xh.trans {a b c:bE}(x:xh a b)(y:xh b c): xh a c :=
 ⟨y.base.trans x.base,y.b.trans x.b,y.dJ.trans x.dJ,y.check.trans x.check,y.log.trans x.log,y.room.trans x.room,y.bG.trans x.bG⟩
theorem pX : δ.jj.2.log=δ.log∧δ.jj.2.room=δ.room∧δ.jj.2.bG=δ.bG:=by
 unfold Dk.jj
 split
 ·simp
 ·split<;>exact⟨rfl,rfl,rfl⟩
theorem Ar : (δ.eE n b).2.log=δ.log∧(δ.eE n b).2.room=δ.room∧(δ.eE n b).2.bG=δ.bG:=by
 unfold Dk.eE
 split
 ·simp
 ·split
  ·simp
  ·split<;>exact⟨rfl,rfl,rfl⟩
theorem KY {x:LD}{n:Nat}: xh (π,x) (π,(cO x n).2):=by
 unfold cO
 split
 ·exact xh.refl _
 ·split
  ·exact⟨rfl,rfl,rfl,rfl,pX.1,pX.2.1,pX.2.2⟩
  ·exact⟨rfl,rfl,rfl,rfl,pX.1,pX.2.1,pX.2.2⟩
theorem xh.to (h:xh ε ag): xh ε (π,ag.2):=⟨h.base,h.b,h.dJ,h.check,h.log,h.room,h.bG⟩
structure oa (R:LD→Prop): Prop where
 force:∀(x:LD) (n:Nat),R x→R (cO x n).2
 write:∀(x:LD) (n:Int) (b:List Nat),R x→R (x.1,(x.2.eE n b).2)
section
variable {cG:Bool} {l:List Int} {cs:List fL}
theorem oa.out (h:oa R)(I:R ε.2): R (outF ε i).2.2:=by
 unfold outF
 split
 ·exact I
 ·split
  ·exact I
  ·split
   ·exact I
   ·split
    ·exact h.force _ _ I
    ·split
     ·exact h.write _ _ _ (h.force _ _ I)
     ·exact h.write _ _ _ (h.force _ _ I)
theorem oa.l9 (h:oa R)(hr:gZ ε n e b ag)(I:R ε.2): R ag.2:=by
 cases hr<;>grind[out]
theorem oa.rd (h:oa R)(hr:oQ ε n e b ag)(I:R ε.2): R ag.2:=by
 cases hr<;>grind[l9]
theorem oa.Ce (h:oa R)(hr:GRd ε now cG n e b ag)(I:R ε.2): R ag.2:=by
 cases hr with
 |arg hn=>exact I
 |cG _ _ _=>exact I
 |own b h1 h2 _ hl=>exact I
 |read e b ag h1 h2 _ hl hr=>exact h.rd hr I
theorem oa.KZ (h:oa R)(hr:wm ε now cG n b e aF ag)(I:R ε.2): R ag.2:=by
 cases hr with
 |may e c ag hr he=>exact h.Ce hr I
 |bad c ag hr hg=>exact h.Ce hr I
 |done c ag hr hg=>exact h.Ce hr I
theorem oa.ch (h:oa R)(hr:mL now l ε e cs ag): R ε.2→R ag.2:=by
 induction hr with
 |nil ε=>simp
 |err n l ε e b ag hr he=>exact h.rd hr
 |part n l ε was b ag c e cs I hr hb hd hc gy ht ih=>exact fun hx=>ih (h.rd hr hx)
 |whole n l ε was b ag e cs I hr hb hd ht ih=>exact fun hx=>ih (h.rd hr hx)
theorem oa.pt (h:oa R)(hr:PtR now bk l ε e ag): R ε.2→R ag.2:=by
 induction hr<;>grind[l9]
theorem Sd (ε:bE): oa fun y=>xh ε (ε.1,y) :=
 ⟨fun _ _ h=>h.trans KY,fun _ _ _ h=>h.trans ⟨rfl,rfl,rfl,rfl,Ar.1,Ar.2.1,Ar.2.2⟩⟩
theorem mL.same (hr:mL now l ε e cs ag): xh ε ag:=((Sd ε).ch hr (xh.refl ε)).to
end
theorem U7 {m:Nat}: ∀ {l:List Nat},l.Pairwise (· < ·)→(∀s∈l,s<m)→l.length≤m:=by
 intro l I hl
 have key:∀(l:List Nat) (k:Nat),l.Pairwise (· < ·)→(∀s∈l,k≤s∧s<m)→k+l.length≤m∨l=[]:=by
  intro l
  induction l with
  |nil=>simp
  |cons x l ih =>
   intro k I hl
   simp only[yg] at I
   have hx:=hl x bB
   rcases ih (x+1) I.2 (fun s hs=>⟨I.1 s hs,(hl s (bA _ hs)).2⟩) with h|rfl<;>grind
 rcases key l 0 I (fun s hs=>⟨gu _,hl s hs⟩) with h|rfl
 ·omega
 ·simp
theorem nU (x:LD)(kd:Int)(tx pv nx:Nat)(data:List Nat)(c:List fL):
  (∃e:Int,e≠0∧((e=1∧iG kd c=false)∨(e=2∧1048576<(gR kd tx pv nx data c).length)∨(e=9∧x.2.dead=true)∨(e=7∧x.2.room<x.2.log.length+(iH x.1 kd tx pv nx data c).length))∧b6 x kd tx pv nx data c=((0,e),x)) ∨
  (x.2.dead=false∧x.2.cM=0∧b6 x kd tx pv nx data c=((0,9),(x.1,{ x.2.die with tail:=iH x.1 kd tx pv nx data c }))) ∨
  (iG kd c=true∧(gR kd tx pv nx data c).length≤1048576∧x.2.dead=false∧x.2.log.length+(iH x.1 kd tx pv nx data c).length≤x.2.room∧x.2.cM≠0 ∧
   b6 x kd tx pv nx data c=((x.1.base+x.1.b.length,0),(x.1.app (iH x.1 kd tx pv nx data c),{ x.2.fZ with log:=x.2.log++iH x.1 kd tx pv nx data c }))):=by
 by_cases I:iG kd c=false
 ·grind[b6]
 ·by_cases hb:1048576<(gR kd tx pv nx data c).length
  ·grind[b6]
  ·by_cases hd:x.2.dead=true
   ·grind[Dk.tu,b6]
   grind[Dk.tu,b6]
theorem D9 {x:LD}{kd:Int}{c:List fL}(va:x.1.Ok)(I:x.2.Ok)(hs:x.1.b=x.2.log)(hz:x.1.base+x.1.b.length+1048584≤1099511627776):
  (b6 x kd tx pv nx data c).2.1.Ok∧(b6 x kd tx pv nx data c).2.2.Ok∧(b6 x kd tx pv nx data c).2.1.b=(b6 x kd tx pv nx data c).2.2.log∧(b6 x kd tx pv nx data c).2.1.base=x.1.base∧(b6 x kd tx pv nx data c).2.1.b.length≤x.1.b.length+1048584 ∧
  (b6 x kd tx pv nx data c).2.2.waiting=x.2.waiting∧(b6 x kd tx pv nx data c).1.1<1099511627776:=by
 have hlen:(iH x.1 kd tx pv nx data c).length=8+(gR kd tx pv nx data c).length:=Ag _ _
 rcases nU x kd tx pv nx data c with⟨e,_,_,h⟩|⟨hd,hf,h⟩|⟨hg,hb,hd,cU,hf,h⟩
 ·grind
 ·rw[h];exact⟨va,⟨I.cM,I.len,I.room,I.now,I.bG,I.gM,I.many⟩,hs,rfl,CU _ _,rfl,by simp⟩
 ·rw[h]
  generalize iH x.1 kd tx pv nx data c=rc at hlen cU
  have aeB:=I.room
  have ja:x.1.b.length=x.2.log.length:=by rw[hs]
  have hl:(x.1.b++rc).length=x.1.b.length+rc.length:=aX
  have iA:(x.2.log++rc).length=x.2.log.length+rc.length:=aX
  refine⟨⟨?_,?_,?_,?_,?_,?_,va.check⟩,⟨I.fZ.cM,?_,I.room,I.now,I.bG,?_,I.many⟩,?_,rfl,?_,rfl,?_⟩
  ·show x.1.base+(x.1.b++rc).length≤_;omega
  ·have h1:=U7 va.HJ va.low
   show(x.1.dJ++[x.1.b.length]).length≤_
   grind
  ·intro s hm
   show s<(x.1.b++rc).length
   rcases List.mem_append.1 (show s∈x.1.dJ++[x.1.b.length] from hm) with hm|hm
   ·have:=va.low s hm;omega
   ·grind
  ·show(x.1.dJ++[x.1.b.length]).Pairwise (·< ·)
   rw[yb]
   refine⟨va.HJ,List.pairwise_singleton _ _,fun a ha b hb => ?_⟩
   rw[List.mem_singleton.1 hb]
   exact va.low a ha
  ·have:=va.forced
   show x.1.forced≤(x.1.b++rc).length;omega
  ·show(x.1.b++rc).length≤_;omega
  ·grind
  ·have:=I.gM
   show x.2.gM≤(x.2.log++rc).length;omega
  ·show x.1.b++rc=x.2.log++rc;rw[hs]
  ·show(x.1.b++rc).length≤_;omega
  ·grind
theorem wf_i64 (I:0≤n)(h2:n<4294967296): (Lit.int .i64 n).wf=true:=by
 simp only[Lit.wf,bQ,jX]
 have e1:IntKind.min .i64 = -9223372036854775808:=rfl
 have e2:IntKind.max .i64=9223372036854775807:=rfl
 omega
theorem YV {kd:Int}{ch:V}(I:dt.beq dt=true)(hc:ch.beq ch=true): (V.agg (qc kd tx pv nx dt ch)).beq (V.agg (qc kd tx pv nx dt ch))=true:=by
 simp only[qc,V.beq,V.beqL,I,hc,ff,sq,C3,lN,ah]
section
variable {told:cE} {p:Nat} {op v:V} {cG:Bool}
theorem YW (hT:W told){kd:Int}{sR:Nat}{ch:V}{ccs:List V}(s:Sat h (iI g a now false::gD a p q r (.ptr g 0) PK aN::gn r p q ε.1::dm q p ε.2.1::bZ p ε.2.2::X::.arr 4 ch ccs::S))(hX:cf X (cy dt data))(RC:ccs.length=sR*4)(cA:kR ε)(hw:dz ε+65536≤268435456)
 (qM:∀e∈now,e.2.length=512)(hm:now.length≤65536)(hk:∀n∈now.map (·.1),0≤n∧n<65536)(F5:tx<18446744073709551616)(W8:pv<18446744073709551616)(W9:nx<18446744073709551616)(hd:data.length≤35184372088832)(U8:ε.2.1.b=ε.2.2.log)(hz:ε.2.1.base+ε.2.1.b.length+1048584≤1099511627776):
  Call ⟨Tryz.prog,told⟩ 18 [.ptr g 0,.agg (qc kd tx pv nx dt ch)] h fun v h'=>∃bk e cl ag,uk ε now kd tx pv nx data sR bk e cl ag∧v=.aT [.int .u64 (bk:Int),.int .i64 e] ∧
   Sat h' (iI g a now cl::gD a p q r (cond cl .b8 (.ptr g 0)) PK aN::gn r p q ag.1::dm q p ag.2.1::bZ p ag.2.2::X::S):=by
 have oN:∀n∈now.map (·.1),(Lit.int .i64 n).wf=true:=fun n hn=>by
  have:=hk n hn
  exact wf_i64 (by omega) (by omega)
 have we:=s.tf (j:=6) rfl
 have AX:=s.aC (k:=5) rfl hX
 have eD:=B3 (kd:=kd) (tx:=tx) (pv:=pv) (nx:=nx) AX.cells.2 we.2.1
 have hlen:=s.fW (n:=sR) (j:=6) rfl RC (by decide) lX
 have s0:=s
 obtain⟨nv,s⟩:=fN.1 s
 refine Call.of_wp (hT.free _ rfl) Tryz.func18 rfl rfl (zg rfl (au.b_ s rfl rfl rfl (eU rfl eD) ?_))
 intro p1 h s
 dsimp only[V.cells] at s
 have s:Sat h (pt p1 (.cells 6 (qc kd tx pv nx dt ch) false)::_):=s
 have hlen:=s.fW (n:=sR) (j:=8) rfl RC (by decide) lX
 refine zk 7 rfl (zY s 1 rD BQ rfl (zk 3 rfl (WP.block (zK 4 rfl (zf rfl (Di _ _) (zh rfl (o_load rfl (s.ld (k:=1) rfl r_ rfl)) (rfl) (zk 5 rfl (zY s 0 BR b9 rfl ?_))))))))
 have fin:∀e:Int,Sat h (iI g a now false::gD a p q r (.ptr g 0) PK aN::gn r p q ε.1::dm q p ε.2.1::bZ p ε.2.2::X::S):=fun e=>((fN.2 ⟨nv,s.ae [1,1]⟩).del 7).del 1
 refine zd rfl (ak rfl rfl aO) ?_ ?_
 ·intro hq
  have hq:kd<1:=by simpa using hq
  exact zk 19 rfl (WP.ret ⟨aa,_,rfl,0,1,false,ε,.arg (.inl (by omega)),rfl,fin 0⟩)
 ·intro hq
  have hq:1≤kd:=by simp at hq;omega
  refine zm rfl (zY s 0 BR b9 rfl ?_)
  refine zd rfl (ak rfl rfl cV) ?_ ?_
  ·intro jt
   have jt:7<kd:=by simpa using jt
   exact zk 15 rfl (WP.ret ⟨aa,_,rfl,0,1,false,ε,.arg (.inl (by omega)),rfl,fin 0⟩)
  ·intro jt
   have jt:kd≤7:=by simp at jt;omega
   refine zk 2 rfl (zY s 0 vY Hr rfl (zo rfl (aD rfl rfl rfl hlen) ?_))
   refine zd rfl (ak rfl rfl cV) ?_ ?_
   ·intro I
    have I:0<sR:=by simp at I;omega
    exact zk 9 rfl (WP.ret ⟨aa,_,rfl,0,1,false,ε,.arg (.inr I),rfl,fin 0⟩)
   ·intro I
    have I:sR=0:=by simp at I;omega
    obtain⟨dv,s⟩:=eB.1 (s.ae [3])
    dsimp only[bringA,getA,aL] at s
    refine zk 8 rfl (zY s 0 Dl xO rfl (zc rfl (KH hT (s.ae [7])) ?_))
    rintro v h ⟨rfl,rfl⟩
    refine zk 2 rfl ?_
    cases J5:ε.2.2.dead with
    |true =>
     refine zK 6 rfl (WP.ret ⟨aa,_,rfl,?_⟩)
     have s9:=fN.2 ⟨nv,(eB.2 ⟨dv,s⟩).ae [2,2]⟩
     dsimp only[bringA,getA,aL] at s9
     exact⟨0,9,false,ε,.dead hq jt I J5,rfl,(s9.del 7).del 2⟩
    |false =>
     refine zj rfl (WP.skip (zg rfl (za rfl (zv (zw (zg rfl (zm rfl ?_)))))))
     have s9:=fN.2 ⟨nv,(eB.2 ⟨dv,s⟩).ae [2,2]⟩
     dsimp only[bringA,getA,aL] at s9
     have s:=s9.ae [0,0,1,1,1]
     dsimp only[bringA,getA,aL] at s
     refine zc rfl (PL hT s cA (by omega) qM hm oN) ?_
     rintro v h ⟨e,c,ag,hc,(⟨he,rfl,s⟩|⟨rfl,gy,av,cs,rfl,s⟩)⟩
     ·refine au.op rfl rfl rfl (bV rfl) ?_
      refine zk 2 rfl (zf rfl (vY _ _) ?_)
      refine zS rfl (by exact s.jS (k:=5) rfl aau rfl (by decide) rfl rfl) (fun h s => ?_)
      dsimp only[qc,Nat.reduceAdd,List.set,setA] at s
      refine zk 5 rfl (zB rfl aH (by simp;exact he) ?_)
      exact zk 8 rfl (WP.ret ⟨aa,_,rfl,0,e,false,ag,.sP e c ag hq jt I J5 hc he,rfl,(s.del 7).del 5⟩)
     ·have NP:=s.tf (j:=0) rfl
      have K0:=hc.qA cA
      have hcp:=hc.dz
      have yP:=hc.same
      have hap:=D9 (x:=ag.2) (kd:=kd) (tx:=tx) (pv:=pv) (nx:=nx) (data:=data) (c:=c) K0.ok.lg K0.ok.dk (by rw[yP.b,yP.log];exact U8) (by rw[yP.base,yP.b];exact hz)
      have cU:=hc.fit qM fun n hn=>hk n ((iT _).mem_iff.1 hn)
      refine zk 3 rfl (zf rfl (vY _ _) (zS rfl (s.jS (k:=7) rfl aau rfl (show 0+5<6 by decide) NP.1 NP.2.1) ?_))
      intro h s
      dsimp only[qc,Nat.reduceAdd,List.set,setA] at s
      refine zk 5 rfl (zC rfl aH (rfl) ?_)
      obtain⟨dv,s⟩:=eB.1 (s.ae [3])
      dsimp only[bringA,getA,aL] at s
      have s:=s.ae [6,6,7,2,2,0,3]
      dsimp only[bringA,getA,aL] at s
      refine zv (zj rfl (WP.skip (zw ?_)))
      have s0:=s
      have adt:=nM AX
      have hrb:=YV (kd:=kd) (tx:=tx) (pv:=pv) (nx:=nx) adt NP.2.2
      refine WP.drawn [af,af,af,af,af,af,af,af,af,af,af] rfl (by kernel_rfl) (by kernel_rfl) ?_
      refine zM rfl (zN rfl (zF rfl (No _ _) (zL rfl (s.ld (k:=5) rfl Uq rfl) (zL rfl (s.b7 (k:=6) rfl Ht Aa) (aB.any rfl rfl rfl rfl (OpR.call rfl rfl rfl rfl (UP (kd:=kd) (tx:=tx) (pv:=pv) (nx:=nx) hT s hX (YU gy cU F5 W8 W9 hd) K0.ok.lg K0.ok.dk)) ?_)))))
      rintro v h ⟨rfl,s⟩
      refine zM rfl (zO rfl (iU rfl rfl) (zO rfl (iU rfl rfl) (zA rfl (zA rfl ?_))))
      refine aB.nil ⟨⟨aa,aa,aa,aa,aa,aa,aa,aa,aa,aa,aa,aa⟩,?_⟩
      refine zK 4 rfl ?_
      have s9:=eB.2 ⟨dv,s.ae [5,6]⟩
      have s:=((((s9.ae [7,0,6,0,0,0]).del 9).del 8).del 7).del 6
      by_cases he:(b6 ag.2 kd tx pv nx data c).1.2=0
      ·skip
       refine zC rfl aH (by simp;exact he) ?_
       refine zk 6 rfl (zc rfl (R8 hT s) ?_)
       rintro v h ⟨rfl,s⟩
       obtain⟨nv,s⟩:=fN.1 s
       obtain⟨wo,rfl⟩:=Kx s (j:=1) rfl
       refine zk 6 rfl (zY s 0 s8 qG rfl (zc rfl (EB hT s) ?_))
       rintro v h ⟨kb,rfl,s⟩
       refine zc rfl (B9 hT (s.ae [0,1]) (by decide) (by omega) oN) ?_
       intro kv h s
       have hl:(gC now).length=now.length:=by rw[gC,(iT _).length_eq,bX]
       refine zo rfl (aD rfl rfl rfl (s.fW (n:=(gC now).length) (j:=0) rfl (by simp[jl]) (by decide) gP)) ?_
       refine zk 2 rfl (WP.block ?_)
       obtain⟨ae1,es,clock,U9,hb,iS,s⟩:=wX.1 (s.ae [2])
       injection U9 with U9
       subst U9
       obtain⟨dv,s⟩:=eB.1 (s.ae [5])
       have s:=s.ae [6,2,2,0,3,3,3,1]
       refine Sc (op:=.b8) (dv:=dv) hT (ks:=gC now) (now:=now) (bk:=(b6 ag.2 kd tx pv nx data c).1.1) (by omega) (fun n hn => ?_) qM (gC now).length 0 (ag.1,(b6 ag.2 kd tx pv nx data c).2) _ _ _ (by omega) ?_ ?_ s ⟨rfl,rfl,rfl,rfl,rfl,rfl,aa⟩ (fun e lY E' h' hp qn l4 l5 s' => ?_) (fun lY E' h' hp eN s' => ?_)
       ·have:n∈now.map (·.1):=(iT _).mem_iff.1 hn
        cases hq:lookL n now with
        |some _=>rfl
        |none=>exact absurd this (uZ.1 hq)
       ·exact⟨⟨K0.ok.pl,hap.1,hap.2.1⟩,K0.pins,K0.full⟩
       ·have e1:dz (ag.1,(b6 ag.2 kd tx pv nx data c).2)=dz ag:=by simp only[dz,hap.2.2.2.2.2.1]
        rw[e1,hl];omega
       ·rw[ij] at hp
        have e4:look E' 4=some (.int .u64 ((0:Nat):Int)):=l4
        refine⟨aa,_,wu e4 l5,0,e,true,lY,?_,rfl,?_⟩
        ·have:=uk.put (data:=data) c ag e lY hq jt I J5 hc he hp
         rwa [ai qn] at this
        ·have s3:=eB.2 ⟨dv,s'.ae [3,6]⟩
         have s4:=wX.2 ⟨wo,es,clock,rfl,hb,iS,s3.ae [2,2]⟩
         exact fN.2 ⟨.map wo,(s4.ae [2,0,0,0,0,0,1]).del 7⟩
       ·rw[ij] at hp
        have s:=s'
        refine WP.has eN (zK 6 rfl (WP.ret ⟨aa,_,rfl,?_⟩))
        refine⟨_,0,true,lY,?_,rfl,?_⟩
        ·have:=uk.put (data:=data) c ag 0 lY hq jt I J5 hc he hp
         exact this
        ·have s3:=eB.2 ⟨dv,s.ae [3,6]⟩
         have s4:=wX.2 ⟨wo,es,clock,rfl,hb,iS,s3.ae [2,2]⟩
         dsimp only[bringA,getA,aL] at s4
         exact fN.2 ⟨.map wo,(s4.ae [2,0,0,0,0,0,1]).del 7⟩
      ·skip
       refine zB rfl aH (by simp;exact he) ?_
       exact zk 8 rfl (WP.ret ⟨aa,_,rfl,0,_,false,_,.app c ag hq jt I J5 hc he,rfl,s⟩)
end
def Lg.fresh : Lg:={ base:=1,b:=[],dJ:=[],forced:=0,check:=0 }
theorem Dz {b c t:Nat}{p v:V}(hl:look E a=some p)(I:loadV P h t p=some v)(h2:look E b=some w)(h3:look E c=some x): resLE P E h [.cell a t,.tmp b,.tmp c]=some (.aT [v,w,x]):=by
 simp only[resLE,mapO,resE,hl,I,h2,h3]
section
variable {told:cE} {p:Nat} {op v:V} {cG:Bool}
theorem MJ (hT:W told)(s:Sat h (bZ p δ::S))(hd:δ.dead=false)(hm:δ.mark=[])(hl:δ.log=[])(hc:δ.gM=0):
  Call ⟨Tryz.prog,told⟩ 104 [.ptr p 0] h fun v h'=>∃q,v=.aT [.ptr q 0,.int .i64 0]∧Sat h' (dm q p Lg.fresh::bZ p δ::S):=by
 refine Call.of_wp (hT.free _ rfl) Tryz.func104 rfl rfl (zK 8 rfl (zc rfl (Pw hT s (by rw[hm];decide)) ?_))
 rintro v h (⟨I,_,_⟩|⟨_,b0,rfl,s⟩)
 ·rw[hd] at I;cases I
 rw[hm] at s
 refine zk 10 rfl (zC rfl aH (rfl) (zk 6 rfl (zo rfl (cQ rfl (by rw[abV];rfl)) ?_)))
 refine au.b_ s rfl rfl rfl (eU rfl rfl) (fun p23 h s => ?_)
 dsimp only[V.cells,List.take,List.length_cons,List.length_nil,Nat.reduceAdd,List.drop,List.cons_append,List.nil_append] at s
 refine zk 7 rfl ?_
 have s:=s.ae [2,0,0]
 dsimp only[bringA,getA,aL] at s
 refine zc rfl (Yy hT s (by rw[hl];decide)) ?_
 rintro v h (⟨I,_,_⟩|⟨_,b1,rfl,s⟩)
 ·rw[hd] at I;cases I
 rw[hl] at s
 have hv:=(s.buf (k:=0) rfl).view.cells
 refine zk 4 rfl (zf rfl (nO _ _) (zS rfl (s.jS (k:=2) rfl dH rfl (by decide) hv.1 hv.2) ?_))
 intro h s
 dsimp only[Nat.reduceAdd,List.set,setA] at s
 refine za rfl (zv (zg rfl (zm rfl (zh rfl (ak rfl rfl aH) (rfl) (zv (zj rfl (WP.skip (zw (zg rfl (zm rfl (zo rfl (aD rfl rfl rfl (by exact aY aK (s.aC (k:=3) rfl (aZ _ _)))) ?_)))))))))))
 refine zv (WP.block (zg rfl (zt rfl (ak rfl rfl c8) (rfl) (za rfl (zv (zi rfl (WP.skip (zg rfl (za rfl (zv (zw (WP.block (WP.loop (zw (zg rfl (zk 3 rfl (zf rfl (nO _ _) (zl rfl (by exact s.ld (k:=2) rfl bF rfl) ?_))))))))))))))))))
 refine zo rfl (aD rfl rfl rfl (aY aK (s.aC (k:=0) rfl (aZ _ _)))) (zC rfl aO (rfl) (zk 2 rfl (WP.exit (zK 6 rfl (zY s 2 nO bF rfl (zo rfl (aD rfl rfl rfl (aY aK (s.aC (k:=0) rfl (aZ _ _)))) (zC rfl aO (rfl) (zk 5 rfl ?_))))))))
 have s0:=s
 have lT:=nM (s.buf (k:=0) rfl).view
 refine WP.drawn [none,none,some (0,2),some (0,2),some (0,2),some (0,2),some (0,2),none] rfl (by kernel_rfl) (by kernel_rfl) ?_
 refine zM rfl (aB.any rfl rfl rfl rfl (OpR.call rfl rfl rfl rfl (Mv hT (s.ae [1]))) ?_)
 rintro v h' ⟨rfl,rfl⟩
 refine zM rfl (zN rfl (zF rfl (nO _ _) (zL rfl (s.ld (k:=2) rfl bF rfl) (zO rfl (aD rfl rfl rfl (aY aK (s.aC (k:=0) rfl (aZ _ _)))) (aB.qb rfl rfl rfl rfl (ak rfl rfl aO) (by rw[show δ.KG=0 from hc];rfl) ?_)))))
 refine aB.nil ⟨⟨aa,aa,fun _ _=>.inr ⟨rfl,⟨_,bV rfl⟩,bg _ rfl⟩,fun _ _=>.inr ⟨rfl,⟨_,uW rfl⟩,bg _ rfl⟩,fun _ _=>.inr ⟨rfl,⟨_,mU rfl (nO _ _)⟩,bg _ rfl⟩,fV (.inr ⟨rfl,⟨_,o_load rfl (s0.ld (k:=2) rfl bF rfl)⟩,lT⟩) (.inr ⟨rfl,⟨_,o_load rfl (s.ld (k:=2) rfl bF rfl)⟩,lT⟩),fV (.inr ⟨rfl,⟨_,aD rfl rfl rfl (aY aK (s0.aC (k:=0) rfl (aZ _ _)))⟩,bg _ rfl⟩) (.inr ⟨rfl,⟨_,aD rfl rfl rfl (aY aK (s.aC (k:=0) rfl (aZ _ _)))⟩,bg _ rfl⟩),aa,aa⟩,?_⟩
 refine zK 7 rfl (zY s 2 nO bF rfl (zo rfl (aD rfl rfl rfl (aY aK (s.aC (k:=0) rfl (aZ _ _)))) (zn rfl (zf rfl (Hy _ _) ?_))))
 refine zS rfl (by exact s.jS (k:=2) rfl nY rfl (by decide) rfl rfl) (fun h s => ?_)
 refine zk 7 rfl (WP.ret ⟨aa,_,rfl,?_⟩)
 have s1:=(s.del 3).mJ (k:=1)
 refine⟨_,rfl,jg.2 ⟨b1,.aR,?_⟩⟩
 exact s1.ae [3,1,0]
theorem Se (hT:W told)(s:Sat h (dm q p μ::S))(I:μ.Ok): Call ⟨Tryz.prog,told⟩ 108 [.ptr q 0,.int .u64 ((μ.base:Int)+(μ.b.length:Int))] h fun v h'=>v=.aT [.agg (qc 0 0 0 0 .aR .aR),.int .u64 0,.int .i64 17]∧Sat h' (dm q p μ::S):=by
 refine Call.of_wp (hT.free _ rfl) Tryz.func108 rfl rfl (zg rfl ?_)
 refine au.b_ s rfl rfl rfl (cu Uo) (fun p4 h s => ?_)
 refine zk 4 rfl (WP.block (zK 4 rfl ?_))
 have s:=s.ae [1]
 refine zc rfl (HK hT s I.size) ?_
 rintro v h' ⟨rfl,rfl⟩
 refine zB rfl c8 (by simp) ?_
 refine zk 5 rfl (zo rfl (cQ rfl (by rw[Up];rfl)) ?_)
 refine zS rfl (s.gX (j:=1) rfl Aa rfl rfl) (fun h s => ?_)
 refine zk 3 rfl ?_
 refine WP.ret ⟨aa,_,Dz rfl (s.b7 (k:=1) rfl Ht Aa) rfl rfl,?_⟩
 exact⟨rfl,s.del 1⟩
theorem U_ (hT:W told){n:Nat}(s:Sat h (dm q p μ::S))(I:μ.Ok)(hn:n<18446744073709551616)(eZ:n≠μ.base+μ.b.length)(yA:μ.hasB n=false): Call ⟨Tryz.prog,told⟩ 108 [.ptr q 0,.int .u64 (n:Int)] h fun v h'=>v=.aT [.agg (qc 0 0 0 0 .aR .aR),.int .u64 0,.int .i64 1]∧Sat h' (dm q p μ::S):=by
 refine Call.of_wp (hT.free _ rfl) Tryz.func108 rfl rfl (zg rfl ?_)
 refine au.b_ s rfl rfl rfl (cu Uo) (fun p4 h s => ?_)
 refine zk 4 rfl (WP.block (zK 4 rfl ?_))
 have s:=s.ae [1]
 refine zc rfl (HK hT s I.size) ?_
 rintro v h' ⟨rfl,rfl⟩
 refine zC rfl c8 (by simp;omega) ?_
 refine zk 7 rfl (zc rfl (YF (n:=n) hT s I hn) ?_)
 rintro v h' ⟨rfl,rfl⟩
 refine zo rfl (dZ rfl rfl) (zk 2 rfl (WP.O_ rfl (by rw[yA];rfl) ?_))
 refine zg rfl (zo rfl (cQ rfl (by rw[Up];rfl)) ?_)
 refine zS rfl (s.gX (j:=1) rfl Aa rfl rfl) (fun h s => ?_)
 refine zk 3 rfl ?_
 refine WP.ret ⟨aa,_,Dz rfl (s.b7 (k:=1) rfl Ht Aa) rfl rfl,?_⟩
 exact⟨rfl,s.del 1⟩
theorem PN (hT:W told){n:Nat}(s:Sat h (dm q p μ::S))(va:μ.Ok)(hn:n<18446744073709551616)(I:n=μ.base+μ.b.length∨μ.hasB n=false): Call ⟨Tryz.prog,told⟩ 108 [.ptr q 0,.int .u64 (n:Int)] h fun v h'=>∃e:Int,e≠0∧v=.aT [.agg (qc 0 0 0 0 .aR .aR),.int .u64 0,.int .i64 e]∧Sat h' (dm q p μ::S):=by
 by_cases he:n=μ.base+μ.b.length
 ·have:=Se hT s va
  rw[show((μ.base:Int)+(μ.b.length:Int))=((n:Nat):Int) by omega] at this
  exact this.mono fun v h' ⟨h1,h2⟩=>⟨17,by decide,h1,h2⟩
 ·rcases I with I|I
  ·exact absurd I he
  ·exact(U_ hT s va hn he I).mono fun v h' ⟨h1,h2⟩=>⟨1,by decide,h1,h2⟩
end
section
variable {told:cE} {p:Nat} {op v:V} {cG:Bool}
theorem PO (I:W told){n:Nat}(s:Sat h (gD a p q r op data aN::dm q p μ::S))(va:μ.Ok)(hn:n<18446744073709551616)(yA:n=μ.base+μ.b.length∨μ.hasB n=false):
  Call ⟨Tryz.prog,told⟩ 111 [.ptr a 0,.int .u64 (n:Int)] h fun v h'=>v=.int .i64 0∧Sat h' (gD a p q r op data aN::dm q p μ::S):=by
 obtain⟨dv,s⟩:=eB.1 s
 refine Call.of_wp (I.free _ rfl) Tryz.func111 rfl rfl (zK 6 rfl ?_)
 refine au.Hq s rfl rfl rfl rfl (fun p18 h s => ?_)
 refine au.Hq s rfl rfl rfl rfl (fun p19 h s => ?_)
 refine zo rfl (cQ rfl (by rw[ab5];rfl)) ?_
 refine au.b_ s rfl rfl rfl (eU rfl rfl) (fun p21 h s => ?_)
 refine zk 5 rfl (zo rfl (Fz rfl rfl) (zk 8 rfl (WP.block (WP.loop (WP.block (zK 4 rfl (zY s 3 No Uq rfl (zm rfl ?_))))))))
 have s1:=s.ae [5]
 refine zc rfl (PN (n:=n) I s1 va hn yA) ?_
 rintro v h ⟨e,he,rfl,s⟩
 refine zk 4 rfl ?_
 refine au.b_ s rfl rfl rfl (cu Uo) (fun p8 h s => ?_)
 refine zS rfl (s.gX (j:=0) rfl Aa rfl rfl) (fun h s => ?_)
 refine zk 7 rfl (zB rfl aH (by simp;exact he) ?_)
 have s:=v8 (f:=fun v (b:List Nat)=>.cg v b) (s.ae [4])
 refine zk 2 rfl (WP.exit (zK 5 rfl (zY s 3 Nu qG rfl (zc rfl (EB I s) ?_))))
 rintro v h ⟨kb,rfl,s⟩
 refine zc rfl (B9 I s (by decide) (by decide) (by simp)) ?_
 intro kv h s
 refine zo rfl (aD rfl rfl rfl (s.fW (n:=0) (j:=0) rfl rfl (by decide) gP)) ?_
 exact zk 2 rfl (WP.block (WP.loop (zg rfl (zC rfl aO (rfl) (zk 3 rfl (WP.exit (zK 5 rfl (zY s 5 Nu qG rfl (zo rfl (aD rfl rfl rfl (UC (s.ae [2]) ud)) (zB rfl c8 (rfl) (zk 6 rfl (WP.ret ⟨aa,_,rfl,rfl,((((((eB.2 ⟨dv,s.ae [7,7,4]⟩).del 7).del 6).del 5).del 4).del 3).del 2⟩))))))))))))
theorem Lg.K1 : Lg.fresh.Ok:=⟨by decide,by decide,by simp[Lg.fresh],List.Pairwise.nil,by decide,by decide,by decide⟩
theorem MK (I:W told){n:Nat}(s:Sat h (bZ p δ::S))(h1:1≤n)(h2:n≤1024)(hd:δ.dead=false)(hm:δ.mark=[])(hl:δ.log=[])(hc:δ.gM=0):
  Call ⟨Tryz.prog,told⟩ 40 [.ptr p 0,.int .i64 (n:Int)] h fun v h'=>∃a q r,v=.aT [.ptr a 0,.int .i64 0]∧Sat h' (gD a p q r .b8 [] 0::gn r p q (Pl.fresh n)::dm q p Lg.fresh::bZ p δ::S):=by
 refine Call.of_wp (I.free _ rfl) Tryz.func40 rfl rfl (zK 9 rfl (zC rfl aO (by simp<;>omega) ?_))
 refine zk 2 rfl (zC rfl cV (by simp<;>omega) ?_)
 refine zk 7 rfl (zc rfl (MJ I s hd hm hl hc) ?_)
 rintro v h ⟨q,rfl,s⟩
 refine zk 10 rfl (zC rfl aH (rfl) (zk 8 rfl (zc rfl (YO (p:=p) (q:=q) (n:=n) I s) ?_)))
 rintro v h (⟨hn,_,_⟩|⟨_,_,r,rfl,s⟩)
 ·omega
 rw[gU] at s
 refine zk 10 rfl (zC rfl aH (rfl) (zk 8 rfl (zo rfl (cQ rfl (by rw[abR];rfl)) ?_)))
 refine au.b_ s rfl rfl rfl (eU rfl rfl) (fun p44 h s => ?_)
 refine zk 5 rfl (zc rfl (RT I (s.ae [2])) ?_)
 rintro v h' ⟨rfl,rfl⟩
 refine zk 6 rfl (zc rfl (Mx I (s.ae [2])) ?_)
 rintro v h' ⟨rfl,rfl⟩
 refine zk 5 rfl (zC rfl aH (rfl) (zk 8 rfl ?_))
 have s1:=eB.2 ⟨.aR,(s.uY).ae [1,0]⟩
 refine zc rfl (PO (n:=1) I (s1.ae [0,1]) Lg.K1 (by decide) (.inl rfl)) ?_
 rintro v h ⟨rfl,s⟩
 exact zk 5 rfl (zC rfl aH (rfl) (zk 9 rfl (WP.ret ⟨aa,_,rfl,_,q,r,rfl,s.ae [0,1,0]⟩)))
end
section
variable {told:cE} {p:Nat} {op v:V} {cG:Bool}
theorem Va (I:W told)(s:Sat h (gD a p q r op data aN::S)): Call ⟨Tryz.prog,told⟩ 96 [.ptr a 0] h fun v h'=>v=.ptr p 0∧h'=h:=by
 obtain⟨dv,s⟩:=eB.1 s
 exact Call.of_wp (I.free _ rfl) Tryz.func96 rfl rfl (zK 8 rfl (zY s 0 Dl xO rfl (zk 2 rfl (WP.ret ⟨aa,_,rfl,rfl,rfl⟩))))
end
section
variable {told:cE} {p:Nat} {op v:V} {cG:Bool}
theorem PR (I:W told){n m f:Nat}(s:Sat h S)(h1:1≤n)(h2:n≤65536)(h3:m≤16777216)(h4:1≤f)(h5:f≤1024):
  Call ⟨Tryz.prog,told⟩ 31 [.int .i64 (n:Int),.int .i64 (m:Int),.int .i64 (f:Int)] h fun v h'=>∃p a q r,v=.aT [.ptr p 0,.ptr a 0] ∧
   Sat h' (gD a p q r .b8 [] 0::gn r p q (Pl.fresh f)::dm q p Lg.fresh::bZ p (Dk.fresh n m)::S):=by
 refine Call.of_wp (I.free _ rfl) Tryz.func31 rfl rfl (zK 9 rfl (zc rfl (YA (n:=(n:Int)) (m:=(m:Int)) I s) ?_))
 rintro v h (⟨hn,_,_⟩|⟨_,_,_,_,p,rfl,s⟩)
 ·omega
 rw[gU,gU] at s
 refine zk 10 rfl (zC rfl aH (rfl) (zk 2 rfl (zC rfl (Ao Tryz.underlying69) (rfl) (zk 8 rfl (zc rfl (MK (n:=f) I s h4 h5 rfl rfl rfl rfl) ?_)))))
 rintro v h ⟨a,q,r,rfl,s⟩
 exact zk 10 rfl (zC rfl aH (rfl) (zk 2 rfl (zC rfl (Ao uj) (rfl) (zk 11 rfl (WP.ret ⟨aa,_,rfl,p,a,q,r,rfl,s⟩)))))
end
theorem Gf : ∀ {l:List Nat},(∀b∈l,b<256)→bytesOf (ofBytes l)=some l:=by
 intro l
 induction l with
 |nil=>intro _;rfl
 |cons b l ih =>
  intro h
  have I:=ih fun x hx=>h x (bA _ hx)
  have h2:=h b bB
  rw[ofBytes] at I
  simp only[ofBytes,ik,bytesOf,I,aA,List.cons.injEq,and_true]
  omega
theorem Cf {v:V}(I:View h v l): convV Tryz.prog h 29 9 v=some (.str l,h):=by
 obtain⟨hb,(⟨rfl|⟨ea,rfl⟩,rfl⟩|⟨id,off,cap,n,cs,st,rfl,hg,hl,ho,hc,_⟩)⟩:=I
 ·simp only[convV,aK,o7,Tryz.underlying5]
 ·simp only[convV,aK,o7,Tryz.underlying5]
 ·have e:rdN h id off l.length=some (ofBytes l):=by rw[qx hg hl ho,hc]
  simp only[convV,aK,o7,Tryz.underlying5,e,Gf hb]
def Xd (l:List Nat): List Nat:=if l.length≠512∨l=List.replicate 512 0 then[] else l.drop 12
structure DK (δ PJ:Dk): Prop where
 dead:PJ.dead=δ.dead
 cM:PJ.cM=δ.cM
 bG:PJ.bG=δ.bG
 now:PJ.now=δ.now
theorem DK.refl (δ:Dk): DK δ δ:=⟨rfl,rfl,rfl,rfl⟩
theorem DK.at (h:DK δ PJ)(n:Int): PJ.at n=δ.at n:=by rw[Dk.at,Dk.at,h.now,h.bG]
structure DA (N:Nat)(δ:Dk): Prop where
 alive:δ.dead=false
 cM:δ.cM<0
 bG:δ.bG.length=N
 keys:∀k:Int,k∈δ.now.map (·.1)→0≤k∧k<N
 nodup:(δ.now.map (·.1)).Nodup
 good:∀n:Int,0≤n→n<N→jz (δ.at n)=0
theorem DA.of (h:DA N δ)(k:DK δ PJ): DA N PJ :=
 ⟨k.dead.trans h.alive,by rw[k.cM];exact h.cM,by rw[k.bG];exact h.bG,by rw[k.now];exact h.keys,by rw[k.now];exact h.nodup,fun n a b=>by rw[k.at];exact h.good n a b⟩
theorem K2 (h:δ.cM<0): δ.fZ=δ:=by
 have:(if 0<δ.cM then δ.cM-1 else δ.cM)=δ.cM:=ai (by omega)
 rw[Dk.fZ,this]
theorem Vb (h:DA N δ): δ.jj=(0,{ δ with gM:=δ.log.length }):=by
 rw[Dk.jj,ai (by rw[h.alive];decide),ai (by have:=h.cM;omega),K2 h.cM]
theorem Sf {x:LD}{n:Nat}(h:DA N x.2): (cO x n).1=0∧DK x.2 (cO x n).2.2:=by
 unfold cO
 split
 ·exact⟨rfl,DK.refl _⟩
 ·rw[Vb h,ai (by simp)]
  exact⟨rfl,rfl,rfl,rfl,rfl⟩
theorem Vc (h:DA N δ)(h0:0≤n)(h1:n<N)(hb:b.length=512)(hc:jz b=0):
  (δ.eE n b).1=0∧DA N (δ.eE n b).2∧∀m,(δ.eE n b).2.at m=if n=m then b else δ.at m:=by
 have e:δ.eE n b=(0,δ.wr n b):=by
  rw[Dk.eE,ai (by rw[h.alive];decide),ai (not_not_intro ⟨h0,by rw[h.bG];exact h1,hb⟩),ai (by have:=h.cM;omega)]
 have qM:(δ.wr n b).now=cD n b δ.now:=rfl
 have fO:(δ.wr n b).bG=δ.bG:=rfl
 have I:∀m,(δ.wr n b).at m=if n=m then b else δ.at m:=fun m=>by
  grind[Dk.at,o6]
 have xj:(δ.wr n b).cM=δ.cM:=by
  show δ.fZ.cM=δ.cM
  rw[K2 h.cM]
 rw[e]
 refine⟨rfl,⟨h.alive,by rw[xj];exact h.cM,h.bG,fun x hx => ?_,?_,fun m a c => ?_⟩,I⟩
 ·rcases v7.1 hx with rfl|hx
  ·omega
  ·exact h.keys x hx
 ·exact n_ h.nodup
 ·rw[I]
  by_cases hm:n=m
  ·grind
  ·rw[ai hm];exact h.good m a c
theorem ML {m:List Nat}{b:Nat}(h1:a+m.length≤l.length)(h2:a+m.length≤b): (az l a m).drop b=l.drop b:=by
 have I:(l.take a).length=a:=by grind
 rw[az,←dA,yj,pI (by grind),dG,vt,aX,I]
 congr 1;omega
theorem Gg {m:List Nat}(h:a+m.length≤l.length): (az l a m)[i]?=if a≤i∧i<a+m.length then m[i-a]? else l[i]?:=by
 grind[az]
theorem wz {m:List Nat}(I:l.drop 12=m.drop 12)(ha:12≤a): dI l a z=dI m a z:=by
 have e:∀l:List Nat,(l.take (a+z)).drop a=((l.drop 12).drop (a-12)).take z:=fun l=>by
  simp_all[lM]
 rw[dI,dI,e,e,I]
theorem MM {m:List Nat}(I:l.drop 12=m.drop 12){low:Nat}: ∀(n i:Nat) (t:List Bool),cellsL l low n i t=cellsL m low n i t:=by
 intro n
 induction n<;>grind[bw,wz,dS,cellsL]
theorem PS {m:List Nat}(hl:l.length=m.length)(I:l.drop 12=m.drop 12): cF l=cF m:=by
 have e1:jy l=jy m:=wz I (by omega)
 have e2:c9 l=c9 m:=wz I (by omega)
 have e3:l.getD 13 0=m.getD 13 0:=by
  have:∀l:List Nat,l[13]?=(l.drop 12)[1]?:=fun l=>by simp
  grind
 grind[cF,MM]
theorem Cg : ∀(k n:Nat),leN (le k n)=n%256^k:=by
 intro k
 induction k<;>grind[le,leN,Nat.mod_mul]
theorem Ci {n:Nat}(hb:b.length=512): (eO b n).drop 12=b.drop 12∧(eO b n).length=512∧(eO b n).drop 4=(qL b n).drop 4∧dI (eO b n) 0 4=F0 0 ((qL b n).drop 4)%4294967296:=by
 have h1:=Af (n:=n) hb
 have h2:(eO b n).length=512:=by grind[eO,bD,cJ]
 have I:(eO b n).drop 4=(qL b n).drop 4:=by rfl
 have h4:(qL b n).drop 12=b.drop 12:=by grind[qL,ML,cJ]
 refine⟨?_,h2,I,?_⟩
 ·have:=dn (List.drop 8) I
  grind[List.drop_drop]
 ·have e:(eO b n).take 4=le 4 (F0 0 ((qL b n).drop 4)):=by
   rfl
  grind[dI,Cg]
theorem YX {n:Nat}(I:∀x∈b,x<256): ∀x∈qL b n,x<256:=wV I (Ps _ _)
theorem Sg {n:Nat}(I:cF b=true)(hb:∀x∈b,x<256): jz (eO b n)=0∧cF (eO b n)=true∧Xd (eO b n)=b.drop 12:=by
 have hl:=jK I
 obtain⟨h1,h2,h3,h4⟩:=Ci (n:=n) hl
 have FM:cF (eO b n)=true:=by grind[PS]
 have hz:cF (List.replicate 512 0)=false:=by decide +kernel
 grind[Es,YX,jz,Xd]
def pgA (ε:bE)(n:Int): List Nat:=match lookL n ε.1.bY with
 |some i=>match ε.1.aj[i.toNat]? with
  |some f=>f.b
  |none=>ε.2.2.at n
 |none=>ε.2.2.at n
structure Vd (N:Nat)(δ:Dk)(bY:List (Int×Int))(i:Nat)(f:Fm): Prop where
 lt:f.bM<N
 here:lookL f.bM bY=some (i:Int)
 aN:jz f.b=0
 same:f.changed=false→f.b=δ.at f.bM
 sP:f.changed=true→cF f.b=true
structure EC (N:Nat)(ε:bE): Prop where
 dk:DA N ε.2.2
 nodup:(ε.1.bY.map (·.1)).Nodup
 pq:∀(n i:Int),lookL n ε.1.bY=some i→0≤n∧∃(j:Nat) (f:Fm),i=j∧ε.1.aj[j]?=some f∧f.bM=n
 back:∀(i:Nat) (f:Fm),ε.1.aj[i]?=some f→f.bM<0∨Vd N ε.2.2 ε.1.bY i f
 ED:∀k:Int,k∈ε.1.dU.map (·.1)→0≤k∧k<N
 K3:(ε.1.dU.map (·.1)).Nodup
theorem qN {f:Fm}(h:lookL n ε.1.bY=some (j:Int))(I:ε.1.aj[j]?=some f): pgA ε n=f.b:=by
 grind[pgA]
theorem pz (h:lookL n ε.1.bY=none): pgA ε n=ε.2.2.at n:=by simp only[pgA,h]
theorem EC.cases (h:EC N ε)(n:Int): (∃(j:Nat) (f:Fm),lookL n ε.1.bY=some (j:Int)∧ε.1.aj[j]?=some f∧f.bM=n∧0≤n∧Vd N ε.2.2 ε.1.bY j f∧pgA ε n=f.b)∨(lookL n ε.1.bY=none∧pgA ε n=ε.2.2.at n):=by
 cases hl:lookL n ε.1.bY with
 |none=>grind[pz]
 |some i =>
  obtain⟨h0,j,f,rfl,I,hp⟩:=h.pq n i hl
  refine .inl ⟨j,f,rfl,I,hp,h0,?_,qN hl I⟩
  rcases h.back j f I with h1|h1
  ·omega
  ·exact h1
theorem xm {m:List Fm}{f g x:Fm}(I:m[i]?=some f)(hx:(m.set i g)[j]?=some x): (i=j∧x=g)∨(i≠j∧m[j]?=some x):=by
 grind
theorem EC.set {f g:Fm}{y:Lg}(h:EC N ε)(hf:ε.1.aj[i]?=some f)(hp:g.bM=f.bM)(UQ:DA N δ)
 (hg:g.bM<0∨Vd N δ ε.1.bY i g)(ho:∀(j:Nat) (x:Fm),i≠j→ε.1.aj[j]?=some x→0≤x.bM→δ.at x.bM=ε.2.2.at x.bM)(hd:∀k:Int,k∈d.map (·.1)→0≤k∧k<N)(hdn:(d.map (·.1)).Nodup):
  EC N ({ ε.1 with aj:=ε.1.aj.set i g,dU:=d },(y,δ)):=by
 refine⟨UQ,h.nodup,fun n k hk => ?_,fun j x hx => ?_,hd,hdn⟩
 ·obtain⟨h0,j,x,rfl,hx,IV⟩:=h.pq n k hk<;>grind
 ·rcases xm hf hx with⟨rfl,rfl⟩|⟨qm,hx⟩
  ·exact hg
  ·rcases h.back j x hx with I|I
   ·omega
   ·by_cases h2:x.bM<0
    ·omega
    ·refine .inr ⟨I.lt,I.here,I.aN,fun hc => ?_,I.sP⟩
     rw[ho j x qm hx (by omega)];exact I.same hc
theorem NQ {f g:Fm}{x:LD}(I:ε.1.aj[i]?=some f)(hb:g.b=f.b)(hx:lookL n ε.1.bY=none→x.2.at n=ε.2.2.at n)(hy:∀j:Int,lookL n ε.1.bY=some j→∃f',ε.1.aj[j.toNat]?=some f'):
  pgA ({ ε.1 with aj:=ε.1.aj.set i g,dU:=d },x) n=pgA ε n:=by
 unfold pgA
 grind
theorem EC.there (h:EC N ε): ∀j:Int,lookL n ε.1.bY=some j→∃f',ε.1.aj[j.toNat]?=some f':=fun j I=>by
 obtain⟨_,k,f,rfl,hf,_⟩:=h.pq n j I<;>grind
theorem EC.out {f:Fm}(h:EC N ε)(I:ε.1.aj[i]?=some f):
  (outF ε i).1=0∧EC N (outF ε i).2∧(∀n,pgA (outF ε i).2 n=pgA ε n)∧(outF ε i).2.1.bY=ε.1.bY∧∃g,(outF ε i).2.1.aj[i]?=some g∧g.bM=f.bM∧(0≤g.bM→g.changed=false):=by
 have hi:=(List.getElem?_eq_some_iff.1 I).1
 unfold outF
 rw[I]
 simp only
 by_cases hc:f.bM<0∨f.changed=false
 ·grind
 ·rw[ai hc]
  have AO:0≤f.bM:=by omega
  have AP:f.changed=true:=by grind
  have ho:=(h.back i f I).resolve_left (by omega)
  have hg:=ho.sP AP
  rw[ai (by grind)]
  obtain⟨e1,k1⟩:=Sf (x:=ε.2) (n:=dI f.b 4 8) h.dk
  rw[ai (by omega)]
  obtain⟨e2,k2,k3⟩:=Vc (h.dk.of k1) AO ho.lt (jK hg) ho.aN
  rw[ai (by omega)]
  have rL:∀m,f.bM≠m→((cO ε.2 (dI f.b 4 8)).2.2.eE f.bM f.b).2.at m=ε.2.2.at m:=fun m hm=>by rw[k3,ai hm,k1.at]
  refine⟨rfl,h.set I rfl k2 (.inr ⟨ho.lt,ho.here,ho.aN,fun _ => ?_,fun hq=>(by cases hq)⟩) (fun j x qm hx h0=>rL _ fun Sh => ?_) (fun k hk => ?_) (n_ h.K3),fun n => ?_,rfl,_,jF hi,rfl,fun _=>rfl⟩
  ·grind
  ·rcases h.back j x hx with h1|h1
   ·omega
   ·have:=h1.here
    rw[←Sh,ho.here] at this
    grind
  ·rcases v7.1 hk with rfl|hk
   ·exact⟨AO,ho.lt⟩
   ·exact h.ED k hk
  ·exact NQ I (by rfl) (fun hn=>rL n fun e=>by rw[←e,ho.here] at hn;cases hn) h.there
theorem gY.back (I:gY π cz){x:Fm}(hx:cz.aj[i]?=some x): ∃f t,π.aj[i]?=some f∧x={ f with gN:=t }:=by
 have hi:=(List.getElem?_eq_some_iff.1 hx).1
 rw[I.len] at hi
 have hf:π.aj[i]?=some (π.aj[i]'hi):=aG _
 obtain⟨t,ht⟩:=I.get i _ hf<;>grind
theorem EC.uC (h:EC N ε)(I:gY ε.1 cz): EC N (cz,ε.2)∧∀n,pgA (cz,ε.2) n=pgA ε n:=by
 refine⟨⟨h.dk,by rw[I.bY];exact h.nodup,fun n i hi => ?_,fun i x hx => ?_,by rw[I.dU];exact h.ED,by rw[I.dU];exact h.K3⟩,fun n => ?_⟩
 ·rw[I.bY] at hi
  obtain⟨h0,j,f,rfl,hf,hp⟩:=h.pq n i hi
  obtain⟨t,ht⟩:=I.get j f hf
  exact⟨h0,j,_,rfl,ht,hp⟩
 ·obtain⟨f,t,hf,rfl⟩:=I.back hx
  rcases h.back i f hf with h1|h1
  ·grind
  ·exact .inr ⟨h1.lt,by rw[I.bY];exact h1.here,h1.aN,h1.same,h1.sP⟩
 ·unfold pgA
  simp only[I.bY]
  cases hl:lookL n ε.1.bY with
  |none=>rfl
  |some i =>
   obtain⟨h0,j,f,rfl,hf,hp⟩:=h.pq n i hl
   obtain⟨t,ht⟩:=I.get j f hf<;>grind
theorem EC.eA {f g:Fm}(h:EC N ε)(hg:ε.1.aj[i]?=some g)(hp:g.bM=f.bM)(hc:0≤g.bM→g.changed=false): EC N (eA ε.1 i f,ε.2)∧(∀n,pgA (eA ε.1 i f,ε.2) n=pgA ε n) ∧
  (eA ε.1 i f).aj[i]?=some fX∧∀n,lookL n ε.1.bY=none→lookL n (eA ε.1 i f).bY=none:=by
 have hi:=(List.getElem?_eq_some_iff.1 hg).1
 have acr:(ε.1.aj.set i fX)[i]?=some fX:=jF hi
 have Si:∀n,lookL n (Am.eA ε.1 i f).bY=if 0≤f.bM∧f.bM=n then none else lookL n ε.1.bY:=fun n=>by
  rw[Am.eA]
  by_cases I:f.bM<0
  ·grind
  ·rw[ai I,IJ h.nodup]
   simp_all
 refine⟨⟨h.dk,?_,fun n k hk => ?_,fun j x hx => ?_,h.ED,h.K3⟩,fun n => ?_,acr,fun n hn => ?_⟩
 ·rw[Am.eA]
  by_cases I:f.bM<0
  ·rw[ay I];exact h.nodup
  ·rw[ai I];exact Ac h.nodup
 ·rw[Si] at hk
  split at hk
  ·cases hk
  ·obtain⟨I,j,x,rfl,hx,IV⟩:=h.pq n k hk
   refine⟨I,j,x,rfl,?_,IV⟩
   show(ε.1.aj.set i fX)[j]?=some x
   grind
 ·rcases xm hg hx with⟨rfl,rfl⟩|⟨qm,hx⟩
  ·exact .inl (by decide)
  ·rcases h.back j x hx with h1|h1
   ·omega
   ·by_cases hx0:x.bM<0
    ·omega
    refine .inr ⟨h1.lt,?_,h1.aN,h1.same,h1.sP⟩
    rw[Si,ai]
    ·exact h1.here
    ·rintro⟨I,Sh⟩
     rcases h.back i g hg with h2|h2
     ·omega
     ·have e:=h2.here
      rw[hp,Sh,h1.here] at e
      grind
 ·rcases h.cases n with⟨j,x,hl,hx,IV,I,ho,e⟩|⟨hl,e⟩
  ·rw[e]
   by_cases Sh:f.bM=n
   ·have qm:i=j:=by
     rcases h.back i g hg with h2|h2
     ·omega
     ·have e:=h2.here
      grind
    subst qm
    rw[hg] at hx
    have:=bW hx
    subst this
    rw[pz (by grind)]
    rw[ho.same (hc (by omega)),hp,Sh]
   ·refine qN (j:=j) (by grind) ?_
    show(ε.1.aj.set i fX)[j]?=some x
    grind
  grind[pz]
 ·grind
theorem EC.kx {e:Fm}(h:EC N ε)(he:ε.1.aj[i]?=some e)(hp:e.bM<0)(hl:lookL n ε.1.bY=none)(h0:0≤n)(h1:n<N): EC N (kx ε.1 i n (ε.2.2.at n),ε.2)∧∀m,pgA (kx ε.1 i n (ε.2.2.at n),ε.2) m=pgA ε m:=by
 have hi:=(List.getElem?_eq_some_iff.1 he).1
 have I:(ε.1.aj.set i ⟨n,ε.2.2.at n,1,true,false⟩)[i]?=some ⟨n,ε.2.2.at n,1,true,false⟩:=jF hi
 have Si:∀m,lookL m (Am.kx ε.1 i n (ε.2.2.at n)).bY=if n=m then some (i:Int) else lookL m ε.1.bY:=fun m=>o6 _
 refine⟨⟨h.dk,n_ h.nodup,fun m k hk => ?_,fun j x hx => ?_,h.ED,h.K3⟩,fun m => ?_⟩
 ·rw[Si] at hk
  split at hk
  ·rename_i hnm
   have:=bW hk
   subst this
   subst hnm
   exact⟨h0,i,_,rfl,I,rfl⟩
  ·obtain⟨h0,j,x,rfl,hx,IV⟩:=h.pq m k hk
   refine⟨h0,j,x,rfl,?_,IV⟩
   show(ε.1.aj.set i _)[j]?=some x
   grind
 ·rcases xm he hx with⟨rfl,rfl⟩|⟨qm,hx⟩
  ·exact .inr ⟨h1,by grind,h.dk.good n h0 h1,fun _=>rfl,fun hq=>(by cases hq)⟩
  ·rcases h.back j x hx with h2|h2
   ·omega
   ·refine .inr ⟨h2.lt,?_,h2.aN,h2.same,h2.sP⟩
    rw[Si,ai]
    ·exact h2.here
    ·rintro rfl
     rw[h2.here] at hl;cases hl
 ·by_cases hnm:n=m
  ·subst hnm
   rw[qN (j:=i) (by grind) I,pz hl]
  ·rcases h.cases m with⟨j,x,iA,hx,IV,_,ho,e2⟩|⟨iA,e2⟩
   ·rw[e2]
    refine qN (j:=j) (by grind) ?_
    show(ε.1.aj.set i _)[j]?=some x
    grind
   grind[pz]
theorem EC.frame {f g:Fm}(h:EC N ε)(hf:ε.1.aj[i]?=some f)(hp:g.bM=f.bM)(hb:g.b=f.b)(hc:g.changed=f.changed): EC N ({ ε.1 with aj:=ε.1.aj.set i g },ε.2)∧∀n,pgA ({ ε.1 with aj:=ε.1.aj.set i g },ε.2) n=pgA ε n:=by
 refine⟨h.set (y:=ε.2.1) (δ:=ε.2.2) hf hp h.dk ?_ (fun _ _ _ _ _=>rfl) h.ED h.K3,fun n=>NQ hf hb (fun _=>rfl) h.there⟩
 rcases h.back i f hf with I|I
 ·omega
 ·exact .inr ⟨by rw[hp];exact I.lt,by rw[hp];exact I.here,by rw[hb];exact I.aN,by rw[hp,hb,hc];exact I.same,by rw[hb,hc];exact I.sP⟩
theorem gZ.ec (hr:gZ ε n e b ag)(h:EC N ε): EC N ag∧(∀m,pgA ag m=pgA ε m)∧(0≤n→n<N→e=0∧b=pgA ε n)∧(¬(0≤n∧n<N)→e=1∧ag=ε):=by
 have fO:=h.dk.bG
 cases hr with
 |arg I=>grind
 |IP i f h1 h2 hl hf =>
  obtain⟨k1,k2⟩:=h.frame (g:={ f with gN:=true,pins:=f.pins+1 }) hf rfl rfl rfl<;>grind[qN]
 |out cz i f h1 h2 hl I hf hh he=>exact absurd ((h.uC I).1.out hf).1 he
 |read cz i f h1 h2 hl I hf hh he hr =>
  obtain⟨k1,k2,k3,k4,g,k5,k6,k7⟩:=(h.uC I).1.out hf
  refine absurd ?_ hr
  rw[fO] at h2
  rw[Dk.tM,ai (by rw[k2.dk.alive];decide),ai (by rw[k2.dk.bG];exact not_not_intro ⟨h1,h2⟩)]
 |bad cz i f h1 h2 hl I hf hh he hr hc =>
  obtain⟨k1,k2,k3,k4,g,k5,k6,k7⟩:=(h.uC I).1.out hf
  rw[fO] at h2
  exact absurd (k2.dk.good n h1 h2) hc
 |load cz i f h1 h2 hl I hf hh he hr hc =>
  obtain⟨n1,n2⟩:=h.uC I
  obtain⟨k1,k2,k3,k4,g,k5,k6,k7⟩:=n1.out hf
  rw[fO] at h2
  obtain⟨f1,f2,f3,f4⟩:=k2.eA k5 k6 k7
  have iA:lookL n (outF (cz,ε.2) i).2.1.bY=none:=by rw[k4];rw[I.bY];exact hl
  obtain⟨l1,l2⟩:=f1.kx f3 (by decide) (f4 n iA) h1 h2
  exact⟨l1,fun m=>by grind,fun _ _=>⟨rfl,by grind[pz]⟩,fun I=>absurd ⟨h1,h2⟩ I⟩
theorem Sj {x:LD}(h:EC N (π,x)): EC N ((unpinF π n).2,x)∧∀m,pgA ((unpinF π n).2,x) m=pgA (π,x) m:=by
 unfold unpinF
 split
 ·grind
 ·split
  ·grind
  ·rename_i i hi f I
   exact h.frame (g:={ f with pins:=f.pins-1 }) I rfl rfl rfl
theorem oQ.ec (hr:oQ ε n e b ag)(h:EC N ε)(hp:∀f∈ε.1.aj,f.pins=0): EC N ag∧(∀m,pgA ag m=pgA ε m)∧(0≤n→n<N→e=0∧b=pgA ε n)∧(¬(0≤n∧n<N)→e=1∧ag=ε):=by
 cases hr with
 |dead I=>rw[h.dk.alive] at I;cases I
 |l9 e b ag I hr he =>
  obtain⟨k1,k2,k3,k4⟩:=hr.ec h<;>grind
 |Aj b ag I hr he=>exact absurd (hr.Ez hp).1 he
 |read b ag I hr he =>
  obtain⟨k1,k2,k3,k4⟩:=hr.ec h<;>grind[Sj]
theorem GRd.ec (hr:GRd ε now false n e b ag)(h:EC N ε)(I:∀f∈ε.1.aj,f.pins=0): EC N ag∧(∀m,pgA ag m=pgA ε m) ∧
  (0≤n→n<N→e=0∧b=(match lookL n now with|some b=>b|none=>pgA ε n))∧(¬(0≤n∧n<N)→e=1):=by
 have fO:=h.dk.bG
 cases hr with
 |arg hn=>grind
 |cG _ _ ho=>cases ho
 |own b h1 h2 _ hl=>grind
 |read e b ag h1 h2 _ hl hr =>
  obtain⟨k1,k2,k3,k4⟩:=hr.ec h I<;>grind
theorem Sk : ∀(N:Nat) (l:List Int),l.Nodup→(∀n∈l,0≤n∧n<N)→l.length≤N:=by
 intro N
 induction N with
 |zero =>
  intro l _ h
  cases l<;>grind[List.mem_cons_self]
 |succ N I =>
  intro l hd h
  have h1:=I (l.erase (N:Int)) (hd.erase _) fun n hn=>by
   grind
  grind
structure NW (N:Nat)(now:List (Int×List Nat)): Prop where
 good:∀e∈now,cF e.2=true∧∀x∈e.2,x<256
 keys:∀k:Int,k∈now.map (·.1)→0≤k∧k<N
 nodup:(now.map (·.1)).Nodup
theorem NW.nil (N:Nat): NW N []:=⟨fun e h=>(by cases h),fun k h=>(by cases h),vu⟩
theorem PT {a:α}: ∀ {l:List (Int×α)} {e:Int×α},e∈cD n a l→e=(n,a)∨e∈l:=by
 intro l
 induction l<;>grind[cD]
theorem NW.put (h:NW N now)(h0:0≤n)(h1:n<N)(hg:cF b=true)(hb:∀x∈b,x<256): NW N (cD n b now):=by
 refine⟨fun e he => ?_,fun k I => ?_,n_ h.nodup⟩
 ·rcases PT he with rfl|he
  ·grind
  ·exact h.good e he
 ·rcases v7.1 I with rfl|I
  ·omega
  ·exact h.keys k I
theorem NW.len (h:NW N now): now.length≤N:=by
 have:=Sk N _ h.nodup h.keys
 rwa [bX] at this
theorem NW.look (h:NW N now)(hl:lookL n now=some b): cF b=true∧∀x∈b,x<256:=h.good _ (nZ hl)
theorem wm.ec (hr:wm ε now false n b e aF ag)(h:EC N ε)(I:∀f∈ε.1.aj,f.pins=0): EC N ag∧(∀m,pgA ag m=pgA ε m) ∧
  (¬(0≤n∧n<N)→e=1∧aF=now)∧(0≤n→n<N→cF b=false→e=4∧aF=now)∧(0≤n→n<N→cF b=true→e=0∧aF=cD n b now):=by
 cases hr with
 |may e c ag hr he =>
  obtain⟨k1,k2,k3,k4⟩:=hr.ec h I<;>grind
 |bad c ag hr hg =>
  obtain⟨k1,k2,k3,k4⟩:=hr.ec h I<;>grind
 |done c ag hr hg =>
  obtain⟨k1,k2,k3,k4⟩:=hr.ec h I<;>grind
theorem mL.ec {l:List Int}{cs:List fL}(hr:mL now l ε e cs ag): EC N ε→kR ε→(∀n∈l,0≤n∧n<N)→EC N ag∧(∀m,pgA ag m=pgA ε m)∧e=0:=by
 induction hr with
 |nil ε=>grind
 |err n l ε e b ag hr he =>
  intro h I hl
  obtain⟨k1,k2,k3,k4⟩:=hr.ec h I.pins<;>grind
 |part n l ε was b ag c e cs lY hr hb hd hc gy ht ih =>
  intro h I hl
  obtain⟨k1,k2,k3,k4⟩:=hr.ec h I.pins
  obtain⟨i1,i2,i3⟩:=ih k1 (hr.qA I) fun m hm=>hl m (bA _ hm)<;>grind
 |whole n l ε was b ag e cs lY hr hb hd ht ih =>
  intro h I hl
  obtain⟨k1,k2,k3,k4⟩:=hr.ec h I.pins
  obtain⟨i1,i2,i3⟩:=ih k1 (hr.qA I) fun m hm=>hl m (bA _ hm)<;>grind
theorem EC.log {x:LD}(h:EC N ε)(k:DK ε.2.2 x.2): EC N (ε.1,x)∧∀m,pgA (ε.1,x) m=pgA ε m:=by
 refine⟨⟨h.dk.of k,h.nodup,h.pq,fun i f hf => ?_,h.ED,h.K3⟩,fun m => ?_⟩
 ·rcases h.back i f hf with I|I
  ·omega
  ·exact .inr ⟨I.lt,I.here,I.aN,fun hc=>by rw[k.at];exact I.same hc,I.sP⟩
 ·unfold pgA
  simp only[k.at]
theorem EC.put {f:Fm}(h:EC N ε)(hl:lookL n ε.1.bY=some (i:Int))(I:ε.1.aj[i]?=some f)(hg:cF b=true)(hb:∀x∈b,x<256)(h0:0≤n)(h1:n<N):
  EC N (HP ε.1 n i f b bk,ε.2)∧∀m,pgA (HP ε.1 n i f b bk,ε.2) m=if m=n then eO b bk else pgA ε m:=by
 obtain⟨s1,s2,s3⟩:=Sg (n:=bk) hg hb
 have hi:=(List.getElem?_eq_some_iff.1 I).1
 have hp:f.bM=n:=by
  obtain⟨_,j,x,qm,hx,IV⟩:=h.pq n i hl<;>grind
 have ho:=(h.back i f I).resolve_left (by omega)
 refine⟨h.set (y:=ε.2.1) (δ:=ε.2.2) I rfl h.dk (.inr ⟨ho.lt,ho.here,s1,fun hq=>(by cases hq),fun _=>s2⟩) (fun _ _ _ _ _=>rfl) (fun k hk => ?_) (n_ h.K3),fun m => ?_⟩
 ·rcases v7.1 hk with rfl|hk
  ·omega
  ·exact h.ED k hk
 ·by_cases hm:m=n
  ·subst hm
   rw[ay rfl]
   exact qN (ε:=(HP ε.1 m i f b bk,ε.2)) hl (jF hi)
  ·rcases h.cases m with⟨j,x,iA,hx,IV,_,_,e2⟩|⟨iA,e2⟩<;>grind[qN,HP,pz]
theorem PtR.ec {l:List Int}(hr:PtR now bk l ε e ag): EC N ε→kR ε→NW N now→(∀n∈l,0≤n∧n<N)→EC N ag∧e=0 ∧
  ∀m,pgA ag m=if m∈l then(match lookL m now with|some b=>eO b bk|none=>pgA ε m) else pgA ε m:=by
 induction hr with
 |nil ε=>grind
 |l9 n l ε e b ag hr he =>
  intro h I hn hl
  have:=hl n bB
  exact absurd ((hr.ec h).2.2.1 this.1 this.2).1 he
 |bad n l ε b0 b ag hr hb he =>
  intro h I hn hl
  exact absurd ((hr.put (b:=b) (bk:=bk) I).2.2 (hn.look hb).1) he
 |put n l ε b0 b ag e lY hr hb he ht ih =>
  intro h I hn hl
  have Xe:=hl n bB
  obtain⟨k1,k2,k3,k4⟩:=hr.ec h
  obtain⟨i,f,p1,p2,p3,p4,p5⟩:=hr.at I.pins
  have hg:=hn.look hb
  have e1:=Gc (bk:=bk) p1 p2 p3 hg.1
  obtain⟨q1,q2⟩:=k1.put (bk:=bk) p1 p2 hg.1 hg.2 Xe.1 Xe.2
  have Wt:=(hr.put (b:=b) (bk:=bk) I).1
  rw[e1] at ih Wt
  obtain⟨i1,i2,i3⟩:=ih q1 Wt hn fun m hm=>hl m (bA _ hm)
  refine⟨i1,i2,fun m => ?_⟩
  rw[i3,q2]
  by_cases hm:m=n
  ·grind
  ·grind
structure EL (K:Nat)(x:LD): Prop where
 log:x.1.b=x.2.log
 cert:x.1.forced≤x.2.gM
 size:x.1.base+x.1.b.length≤K
theorem EL.force {x:LD}{n:Nat}(h:EL K x): EL K (cO x n).2:=by
 unfold cO Dk.jj
 split
 ·exact h
 ·by_cases hd:x.2.dead=true
  ·grind
  ·rw[ai hd]
   by_cases I:x.2.cM=0
   ·rw[ay I,ay (show(9:Int)≠0 by decide)];exact⟨h.log,h.cert,h.size⟩
   ·rw[ai I,ai (show ¬(0:Int)≠0 by decide)];exact⟨h.log,by rw[h.log];exact aI _,h.size⟩
theorem EL.write {x:LD}(h:EL K x): EL K (x.1,(x.2.eE n b).2):=by
 unfold Dk.eE
 split
 ·exact h
 ·split
  ·exact h
  ·split<;>exact⟨h.log,h.cert,h.size⟩
theorem yR (K:Nat): oa (EL K):=⟨fun _ _ h=>h.force,fun _ _ _ h=>h.write⟩
theorem oQ.el (hr:oQ ε n e b ag)(h:EL K ε.2): EL K ag.2:=(yR K).rd hr h
theorem GRd.el {cG:Bool}(hr:GRd ε now cG n e b ag)(h:EL K ε.2): EL K ag.2:=(yR K).Ce hr h
theorem wm.el {cG:Bool}(hr:wm ε now cG n b e aF ag)(h:EL K ε.2): EL K ag.2:=(yR K).KZ hr h
theorem mL.el {l:List Int}{cs:List fL}(hr:mL now l ε e cs ag)(h:EL K ε.2): EL K ag.2:=(yR K).ch hr h
theorem PtR.el {l:List Int}(hr:PtR now bk l ε e ag)(h:EL K ε.2): EL K ag.2:=(yR K).pt hr h
structure EI (N B:Nat)(ε:bE): Prop where
 ok:kR ε
 ec:EC N ε
 el:EL (B*1048600) ε.2
 dz:dz ε≤B*65536
theorem EI.more (h:EI N B ε){I:Nat}(hb:B≤I): EI N I ε :=
 ⟨h.ok,h.ec,⟨h.el.log,h.el.cert,cY h.el.size (pK _ hb)⟩,cY h.dz (pK _ hb)⟩
theorem EI.rd (h:EI N B ε)(hr:oQ ε n e b ag): EI N B ag :=
 ⟨hr.qA h.ok,(hr.ec h.ec h.ok.pins).1,hr.el h.el,cY hr.dz h.dz⟩
theorem EI.Ce (h:EI N B ε)(hr:GRd ε now false n e b ag): EI N B ag :=
 ⟨hr.qA h.ok,(hr.ec h.ec h.ok.pins).1,hr.el h.el,cY hr.dz h.dz⟩
theorem EI.KZ (h:EI N B ε)(hr:wm ε now false n b e aF ag): EI N B ag :=
 ⟨hr.qA h.ok,(hr.ec h.ec h.ok.pins).1,hr.el h.el,cY hr.dz h.dz⟩
theorem EI.many (h:EI N B ε): N≤65536:=by
 have:=h.ok.ok.dk.many
 rwa [h.ec.dk.bG] at this
theorem EI.app {kd:Int}{c:List fL}(h:EI N B ε)(hB:B≤1000)(hg:iG kd c=true):
  EI N (B+1) (ε.1,(b6 ε.2 kd tx pv nx data c).2)∧(∀m,pgA (ε.1,(b6 ε.2 kd tx pv nx data c).2) m=pgA ε m) ∧
  (((b6 ε.2 kd tx pv nx data c).1.2=0∧b6 ε.2 kd tx pv nx data c=((ε.2.1.base+ε.2.1.b.length,0),(ε.2.1.app (iH ε.2.1 kd tx pv nx data c),{ ε.2.2 with log:=ε.2.2.log++iH ε.2.1 kd tx pv nx data c }))) ∨
   (b6 ε.2 kd tx pv nx data c).1.2=7∨((b6 ε.2 kd tx pv nx data c).1.2=2∧1048576<(gR kd tx pv nx data c).length)):=by
 have hs:=h.el.size
 have jU:=D9 (kd:=kd) (tx:=tx) (pv:=pv) (nx:=nx) (data:=data) (c:=c) h.ok.ok.lg h.ok.ok.dk h.el.log (by omega)
 have Ap:Am.dz (ε.1,(b6 ε.2 kd tx pv nx data c).2)≤(B+1)*65536:=by
  have e:Am.dz (ε.1,(b6 ε.2 kd tx pv nx data c).2)=Am.dz ε:=by grind[Am.dz]
  rw[e]
  exact cY h.dz (pK _ (rq B))
 have fJ:(b6 ε.2 kd tx pv nx data c).2.1.base+(b6 ε.2 kd tx pv nx data c).2.1.b.length≤(B+1)*1048600:=by
  omega
 have main:∀(hk:DK ε.2.2 (b6 ε.2 kd tx pv nx data c).2.2) (hc:(b6 ε.2 kd tx pv nx data c).2.1.forced≤(b6 ε.2 kd tx pv nx data c).2.2.gM),EI N (B+1) (ε.1,(b6 ε.2 kd tx pv nx data c).2)∧∀m,pgA (ε.1,(b6 ε.2 kd tx pv nx data c).2) m=pgA ε m:=fun hk hc=>by
  obtain⟨l1,l2⟩:=h.ec.log hk
  exact⟨⟨⟨⟨h.ok.ok.pl,jU.1,jU.2.1⟩,h.ok.pins,h.ok.full⟩,l1,⟨jU.2.2.1,hc,fJ⟩,Ap⟩,l2⟩
 rcases nU ε.2 kd tx pv nx data c with⟨e,he,hc,I⟩|⟨hd,hf,I⟩|⟨_,_,hd,cU,hf,I⟩
 ·obtain⟨m1,m2⟩:=main (by rw[I];exact DK.refl _) (by rw[I];exact h.el.cert)
  refine⟨m1,m2,.inr ?_⟩
  rw[I]
  rcases hc with⟨_,hb⟩|⟨rfl,hb⟩|⟨_,hb⟩|⟨rfl,hb⟩
  ·grind
  ·grind
  ·rw[h.ec.dk.alive] at hb;cases hb
  ·simp
 ·have:=h.ec.dk.cM;omega
 ·rw[K2 h.ec.dk.cM] at I
  obtain⟨m1,m2⟩:=main (by rw[I];exact⟨rfl,rfl,rfl,rfl⟩) (by rw[I];exact h.el.cert)
  exact⟨m1,m2,.inl ⟨by rw[I],I⟩⟩
theorem EI.done {kd:Int}{cl:Bool}(h:EI N B ε)(hB:B≤1000)(hn:NW N now)(h1:1≤kd)(h2:kd≤7)(hr:uk ε now kd tx pv nx data 0 bk e cl ag):
  (cl=false∧(e=7∨e=2)∧EI N (B+2) ag∧∀m,pgA ag m=pgA ε m) ∨
  (cl=true∧e=0∧EI N (B+2) ag∧∀m,pgA ag m=match lookL m now with|some b=>eO b bk|none=>pgA ε m):=by
 have I:∀n∈gC now,0≤n∧n<N:=fun n hq=>hn.keys n (uh.1 hq)
 have hN:=h.many
 have cU:∀ {c:List fL} {ag:bE} {e:Int},mL now (gC now) ε e c ag→iG kd c=true:=fun hc=>by
  refine U6 ⟨h1,by omega⟩ (hc.fit (fun x hx=>jK (hn.good x hx).1) fun n hq => ?_)<;>grind
 cases hr with
 |arg hq=>omega
 |dead _ _ _ hd=>rw[h.ec.dk.alive] at hd;cases hd
 |sP e c ag _ _ _ hd hc he=>exact absurd (hc.ec h.ec h.ok I).2.2 he
 |app c ag _ _ _ hd hc he =>
  obtain⟨c1,c2,c3⟩:=hc.ec h.ec h.ok I
  have hi:EI N B ag:=⟨hc.qA h.ok,c1,hc.el h.el,cY hc.dz h.dz⟩
  obtain⟨a1,a2,a3⟩:=hi.app (kd:=kd) (tx:=tx) (pv:=pv) (nx:=nx) (data:=data) (c:=c) hB (cU hc)
  refine .inl ⟨rfl,?_,a1.more (by omega),fun m=>by grind⟩<;>grind
 |put c ag e lY _ _ _ hd hc ha hp =>
  obtain⟨c1,c2,c3⟩:=hc.ec h.ec h.ok I
  have hi:EI N B ag:=⟨hc.qA h.ok,c1,hc.el h.el,cY hc.dz h.dz⟩
  obtain⟨a1,a2,a3⟩:=hi.app (kd:=kd) (tx:=tx) (pv:=pv) (nx:=nx) (data:=data) (c:=c) hB (cU hc)
  obtain⟨p1,p2,p3⟩:=hp.ec a1.ec a1.ok hn I
  have hl:(gC now).length≤N:=by
   have:=hn.len
   rw[gC,(iT _).length_eq,bX];exact this
  have mH:=hp.dz a1.ok
  have wP:=a1.dz
  refine .inr ⟨rfl,p2,⟨hp.qA a1.ok,p1,?_,by omega⟩,fun m => ?_⟩
  ·have:=hp.el a1.el
   exact⟨this.log,this.cert,cY this.size (pK _ (by omega))⟩
  ·grind[uh,uZ]
theorem MN (n:Nat): (digits 9 n).length≤10:=xg 9 n
def A2 (π:Pl)(n:Int)(b:List Nat): Prop:=∃(i:Nat) (f:Fm),π.aj[i]?=some f∧f.bM=n∧0≤n∧f.changed=true∧f.b=b
abbrev VP := (Int→List Nat→Prop)→List (Int×(Nat×Bool))→LD→Prop
abbrev vw (P:VP)(ε:bE): Prop:=P (A2 ε.1) ε.1.dU ε.2
theorem Ve (hn:gY π cz): A2 cz=A2 π:=by
 funext n b
 refine propext ⟨fun⟨i,x,hx,I,h0,h2,h3⟩ => ?_,fun⟨i,f,hf,I,h0,h2,h3⟩ => ?_⟩
 ·obtain⟨f,t,hf,rfl⟩:=hn.back hx
  exact⟨i,f,hf,I,h0,h2,h3⟩
 ·obtain⟨t,ht⟩:=hn.get i f hf
  exact⟨i,_,ht,I,h0,h2,h3⟩
theorem DB {f g:Fm}(hf:π.aj[i]?=some f)(hs:∀n b,(f.bM=n∧0≤n∧f.changed=true∧f.b=b)↔(g.bM=n∧0≤n∧g.changed=true∧g.b=b)){w:List (Int×Int)}{hd:Nat}: A2 ⟨π.aj.set i g,w,d,hd⟩=A2 π:=by
 have hi:=(List.getElem?_eq_some_iff.1 hf).1
 funext n b
 refine propext ⟨fun⟨j,x,I,h⟩ => ?_,fun⟨j,x,I,h⟩ => ?_⟩
 ·rcases xm hf I with⟨rfl,rfl⟩|⟨_,I⟩
  ·exact⟨i,f,hf,(hs n b).2 h⟩
  ·exact⟨j,x,I,h⟩
 ·by_cases hj:i=j
  ·subst hj
   rw[hf] at I
   have:=bW I
   subst this
   exact⟨i,g,jF hi,(hs n b).1 h⟩
  ·exact⟨j,x,by grind,h⟩
theorem Sl {f g:Fm}(hg:π.aj[i]?=some g)(hc:0≤g.bM→g.changed=false): A2 (eA π i f)=A2 π :=
 DB hg fun n b=>⟨(fun⟨h1,h0,I,_⟩=>by grind),fun⟨_,_,I,_⟩=>(by cases I)⟩
theorem PU {e:Fm}(he:π.aj[i]?=some e)(hp:e.bM<0): A2 (kx π i n b)=A2 π :=
 DB he fun m c=>⟨fun⟨h1,h0,_⟩=>by omega,fun⟨_,_,I,_⟩=>(by cases I)⟩
structure uD (N:Nat)(P:VP): Prop where
 one:∀(ε:bE) (i:Nat) (f:Fm),EC N ε→ε.1.aj[i]?=some f→0≤f.bM→f.changed=true→vw P ε→vw P (outF ε i).2
theorem oa.adu (h:oa R)(N:Nat): uD N (fun _ _ x=>R x):=⟨fun _ _ _ _ _ _ _ I=>h.out I⟩
section
variable {P:VP} {l:List Int} {cs:List fL}
theorem uD.out (h:uD N P){f:Fm}(he:EC N ε)(I:ε.1.aj[i]?=some f)(hv:vw P ε): vw P (outF ε i).2:=by
 by_cases hc:f.bM<0∨f.changed=false
 ·grind[outF]
 ·exact h.one ε i f he I (by omega) (by grind) hv
theorem uD.l9 (h:uD N P)(hr:gZ ε n e b ag)(he:EC N ε)(hv:vw P ε): vw P ag:=by
 cases hr with
 |arg I=>exact hv
 |IP i f h1 h2 hl hf =>
  grind[DB]
 |out cz i f h1 h2 hl I hf hh hq=>exact absurd ((he.uC I).1.out hf).1 hq
 |read cz i f h1 h2 hl I hf hh hq hr =>
  obtain⟨k1,k2,k3,k4,g,k5,k6,k7⟩:=(he.uC I).1.out hf
  refine absurd ?_ hr
  rw[he.dk.bG] at h2
  rw[Dk.tM,ai (by rw[k2.dk.alive];decide),ai (by rw[k2.dk.bG];exact not_not_intro ⟨h1,h2⟩)]
 |bad cz i f h1 h2 hl I hf hh hq hr hc =>
  obtain⟨k1,k2,k3,k4,g,k5,k6,k7⟩:=(he.uC I).1.out hf
  rw[he.dk.bG] at h2
  exact absurd (k2.dk.good n h1 h2) hc
 |load cz i f h1 h2 hl I hf hh hq hr hc =>
  obtain⟨n1,n2⟩:=he.uC I
  have RS:vw P (cz,ε.2):=by show P (A2 cz) cz.dU ε.2;rw[Ve I,I.dU];exact hv
  have IF:=h.out (ε:=(cz,ε.2)) n1 hf RS
  grind[Sl,eA,outF,fX,kx,PU]
theorem Sn : A2 (unpinF π n).2=A2 π∧(unpinF π n).2.dU=π.dU:=by
 grind[unpinF,DB]
theorem uD.rd (h:uD N P)(hr:oQ ε n e b ag)(he:EC N ε)(I:vw P ε): vw P ag:=by
 cases hr<;>grind[l9,Sn]
theorem uD.Ce (h:uD N P)(hr:GRd ε now false n e b ag)(he:EC N ε)(I:vw P ε): vw P ag:=by
 cases hr with
 |arg hn=>exact I
 |cG _ _ ho=>cases ho
 |own b h1 h2 _ hl=>exact I
 |read e b ag h1 h2 _ hl hr=>exact h.rd hr he I
theorem uD.KZ (h:uD N P)(hr:wm ε now false n b e aF ag)(he:EC N ε)(I:vw P ε): vw P ag:=by
 cases hr with
 |may e c ag hr _=>exact h.Ce hr he I
 |bad c ag hr hg=>exact h.Ce hr he I
 |done c ag hr hg=>exact h.Ce hr he I
end
def pY (l:List (List Nat)): List V:=l.map V.str
def qO (k:Nat)(v:V)(cs:List V): aE:=.xs fun o:Option (Nat×Nat×Nat)=>match o with
 |none=>.pu ((v=.aR∨∃a,v=.sle a)∧cs=[])
 |some (id,len,cap)=>.an (.ro id (.cells cs.length cs true)) (.pu (v=.sl id 0 len (.exact cap)∧cs.length=len*k))
theorem aJ.qO (k:Nat)(v:V)(cs:List V): aJ (Am.qO k v cs):=aJ.xs fun o=>by
 cases o with
 |none=>exact aJ.pu _
 |some x=>exact aJ.an (aJ.ro _ _) (aJ.pu _)
section
variable {v:V} {cs:List V}
theorem Sat.rowAt (s:Sat h S)(hj:getA S j=some (qO k v cs)): ((v=.aR∨∃a,v=.sle a)∧cs=[])∨∃id len cap,v=.sl id 0 len (.exact cap)∧cs.length=len*k∧T.get h.tr id=some (.cells cs.length cs true):=by
 obtain⟨m,r,h1,h2,o,I⟩:=s.at hj
 cases o with
 |none=>exact .inl I
 |some x=>exact .inr ⟨x.1,x.2.1,x.2.2,I.2.1,I.2.2,h2 _ _ I.1⟩
theorem Sat.K4 {n:Nat}{e:TypeId}(s:Sat h S)(hj:getA S j=some (qO k v cs))(I:cs.length=n*k)(hk:1≤k)(hu:P.underlying t=some (.slice e)): lenV P h t v=some (.int .i64 n):=by
 rcases s.rowAt hj with⟨hv,rfl⟩|⟨id,len,cap,rfl,hl,_⟩
 ·have:n=0:=by
   cases n with
   |zero=>rfl
   |succ n=>simp only[cj,rj,C0] at I;omega
  subst this
  rcases hv with rfl|⟨a,rfl⟩
  ·exact Nn hu
  ·simp only[lenV,hu];rfl
 ·have:n=len:=by
   rw[hl] at I
   exact(GN (by omega) I).symm
  subst this
  exact Rv hu
theorem Sat.acs {e:TypeId}(s:Sat h S)(hj:getA S j=some (qO k v cs))(hi:i*k+k≤cs.length)(hk:1≤k)(hu:P.underlying t=some (.slice e))(I:bp P e=some k)(ha:isAggT P e=some true):
  ∃id off,indexAddrV P t v (.int .i64 (i:Int))=some (.ptr id off)∧loadV P h e (.ptr id off)=some (.agg ((cs.drop (i*k)).take k)):=by
 rcases s.rowAt hj with⟨_,rfl⟩|⟨id,len,cap,rfl,hl,hg⟩
 ·simp at hi;omega
 ·refine⟨id,i*k,?_,ldN ha I hg rfl hi⟩
  simp only[indexAddrV,hu,I,gU]
  have:i<len:=by
   have h4:i*k+k=(i+1)*k:=by rw[rj,C0]
   rw[h4,hl] at hi
   exact GY (GO hi hk)
  rw[show(decide ((0:Int)≤(i:Int))&&decide ((i:Int)<(len:Int)))=true by simp;omega,ah]
  simp
end
def tot : List (List Nat)→Nat
 |[]=>0
 |c::l=>c.length+tot l
theorem tC {a b:List (List Nat)}: tot (a++b)=tot a+tot b:=by
 induction a<;>grind[tot]
theorem iP : ∀ {cs:List (List Nat)} {i:Nat} {c:List Nat},cs[i]?=some c→tot (cs.take (i+1))=tot (cs.take i)+c.length:=by
 intro cs
 induction cs<;>grind[tot]
theorem As (h:i≤j): tot (cs.take i)≤tot (cs.take j):=by
 grind[List.take_append_drop,tC]
theorem kY {cs:List (List Nat)}{i:Nat}: tot (cs.take i)≤tot cs:=by
 grind[tC,List.take_append_drop]
theorem YY : ∀ {cs:List (List Nat)} {i:Nat} {c c':List Nat},cs[i]?=some c→c'.length=c.length→∀k,tot ((cs.set i c').take k)=tot (cs.take k):=by
 intro cs
 induction cs with
 |nil=>simp
 |cons x cs I =>
  intro i c c' h hl k
  cases i with
  |zero =>
   simp at h;subst h
   cases k<;>grind[tot]
  |succ i=>cases k<;>grind[tot]
theorem dM {l m:List Nat}{a i:Nat}(h:a+m.length≤l.length)(hi:i<a∨a+m.length≤i): (az l a m)[i]?=l[i]?:=by
 grind[Gg]
theorem mM {l m:List Nat}{a i:Nat}(h:a+m.length≤l.length)(hi:i<m.length): (az l a m)[a+i]?=m[i]?:=by
 grind[Gg]
theorem dN {l m:List Nat}{a z:Nat}(h:∀i,a≤i→i<a+z→l[i]?=m[i]?): dI l a z=dI m a z:=by
 unfold dI
 congr 1
 apply ny
 simp_all[ig]
theorem HQ {m:List Nat}{b:Nat}(h:a+m.length≤l.length)(I:b+z≤a∨a+m.length≤b): dI (az l a m) b z=dI l b z :=
 by grind[dN,dM]
theorem pE {l:List Nat}{a z n:Nat}(h:a+z≤l.length)(I:n<256^z): dI (az l a (le z n)) a z=n:=by
 have e:((az l a (le z n)).take (a+z)).drop a=le z n:=by
  apply ny
  simp only[fb,ig]
  grind[mM,cJ]
 grind[dI,Cg,Nat.mod_eq_of_lt]
theorem my {l m:List Nat}{i:Nat}(h:l[i]?=m[i]?): l.getD i 0=m.getD i 0:=by grind
structure fA (b:List Nat)(k link extra:Nat)(cs:List (List Nat)): Prop where
 len:b.length=512
 D_:b.getD 13 0=0
 kind:b.getD 12 0=k
 link:dI b 18 4=link
 extra:dI b 22 4=extra
 fZ:jy b=cs.length
 low:c9 b+tot cs=512
 fits:26+4*cs.length+tot cs≤512
 slot:∀i c,cs[i]?=some c→bw b i+tot (cs.take (i+1))=512∧dS b i=c.length∧∀j,j<c.length→b[bw b i+j]?=c[j]?
theorem K5 : ∀(z k:Nat) (t:List Bool),k+z≤t.length→(∀j,k≤j→j<k+z→t.getD j false=false)→∃t',markL z k t=some t'∧t'.length=t.length∧∀j,(j<k∨k+z≤j)→t'.getD j false=t.getD j false:=by
 intro z
 induction z with
 |zero=>intro k t _ _;exact⟨t,rfl,rfl,fun _ _=>rfl⟩
 |succ z I =>
  intro k t h1 h2
  have hs:∀j,j≠k→(t.set k true).getD j false=t.getD j false:=fun j hj=>by
   grind
  obtain⟨t',e1,e2,e3⟩:=I (k+1) (t.set k true) (by grind) (fun j a b=>by grind)<;>grind[markL]
section
theorem fA.cells (h:fA b k link extra cs): ∀(n i:Nat) (t:List Bool),i+n=cs.length→t.length=512→(∀j,j+tot (cs.take i)<512→t.getD j false=false)→cellsL b (c9 b) n i t=true:=by
 intro n
 induction n with
 |zero=>intro i t _ _ _;rfl
 |succ n ih =>
  intro i t hi ht hf
  have I:cs[i]?=some (cs[i]'(by omega)):=aG _
  generalize (cs[i]'(by omega))=c at I
  obtain⟨s1,s2,s3⟩:=h.slot i c I
  have h1:=iP I
  have h2:=kY (cs:=cs) (i:=i+1)
  have h3:=h.low
  obtain⟨t',e1,e2,e3⟩:=K5 c.length (bw b i) t (by omega) (fun j _ _=>hf j (by omega))
  rw[cellsL,s2,ai (by omega),e1]
  exact ih (i+1) t' (by omega) (by omega) (fun j hj=>by grind)
theorem fA.good (h:fA b k link extra cs): cF b=true:=by
 have I:=h.low
 have h2:=h.fits
 rw[cF,dB h.len,dB h.D_,dB (by rw[h.fZ];omega),h.cells _ _ _ (by rw[h.fZ];omega) gd fun j hj => ?_]
 ·rfl
 grind
theorem fA.tail (h:fA b k link extra cs)(hl:b'.length=512)(ht:b'.drop 12=b.drop 12): fA b' k link extra cs:=by
 have hg:∀i,12≤i→b'[i]?=b[i]?:=fun i hi=>by
  have:=dn (fun l:List Nat=>l[i-12]?) ht
  grind
 have I:∀a z,12≤a→dI b' a z=dI b a z:=fun a z q=>wz ht q
 refine⟨hl,?_,?_,?_,?_,?_,?_,h.fits,fun i c hc => ?_⟩
 ·rw[my (hg 13 (by decide))];exact h.D_
 ·rw[my (hg 12 (by decide))];exact h.kind
 ·rw[I _ _ (by decide)];exact h.link
 ·rw[I _ _ (by decide)];exact h.extra
 ·rw[jy,I _ _ (by decide)];exact h.fZ
 ·rw[c9,I _ _ (by decide)];exact h.low
 ·obtain⟨s1,s2,s3⟩:=h.slot i c hc
  have e1:bw b' i=bw b i:=I _ _ (by omega)
  have e2:dS b' i=dS b i:=I _ _ (by omega)
  have cU:=h.fits
  grind[kY]
def xR (k:Nat): List Nat:=az ((List.replicate 512 0).set 12 k) 16 (le 2 512)
theorem fA.new : fA (xR k) k 0 0 []:=by
 have hle:∀n,(le 2 n).length=2:=fun n=>cJ 2 n
 have I:∀i,i<16∨18≤i→(xR k)[i]?=((List.replicate 512 0).set 12 k)[i]?:=fun i hi=>dM (by grind) (by grind)
 have hz:∀i,i≠12→((List.replicate 512 0).set 12 k)[i]?=(List.replicate 512 0)[i]?:=fun i hi=>lG (by omega)
 have rL:∀a z,a+z≤512→(18≤a∨(13≤a∧a+z≤16))→dI (xR k) a z=dI (List.replicate 512 0) a z:=fun a z h1 h2=>dN fun i h3 h4=>by grind
 refine⟨by grind[xR,bD],?_,?_,?_,?_,?_,?_,by decide,fun i c hc=>(by grind)⟩
 ·rfl
 ·rfl
 ·rfl
 ·rfl
 ·rfl
 ·rfl
def xS (b:List Nat)(x y:Nat): List Nat:=az (az b 18 (le 4 x)) 22 (le 4 y)
theorem fA.set (h:fA b k link extra cs){x y:Nat}(hx:x<4294967296)(hy:y<4294967296): fA (xS b x y) k x y cs:=by
 have hlen:=h.len
 have hle:∀n,(le 4 n).length=4:=fun n=>cJ 4 n
 have l1:(az b 18 (le 4 x)).length=512:=by grind[bD]
 have l2:(xS b x y).length=512:=by grind[xS,bD]
 have I:∀i,i<18∨26≤i→(xS b x y)[i]?=b[i]?:=fun i hi=>by
  grind[xS,dM]
 have rL:∀a z,a+z≤18∨26≤a→dI (xS b x y) a z=dI b a z:=fun a z h2=>dN fun i h3 h4=>I i (by omega)
 refine⟨l2,?_,?_,?_,?_,?_,?_,h.fits,fun i c hc => ?_⟩
 ·rw[my (I 13 (by decide))];exact h.D_
 ·rw[my (I 12 (by decide))];exact h.kind
 ·grind[xS,HQ,pE]
 ·grind[xS,pE]
 ·rw[jy,rL _ _ (by decide)];exact h.fZ
 ·rw[c9,rL _ _ (by decide)];exact h.low
 ·obtain⟨s1,s2,s3⟩:=h.slot i c hc
  have e1:bw (xS b x y) i=bw b i:=rL _ _ (by omega)
  have e2:dS (xS b x y) i=dS b i:=rL _ _ (by omega)
  have cU:=h.fits
  grind[kY]
def l_ (b:List Nat)(i f z:Nat): List Nat:=az (az b (26+4*i) (le 2 f)) (26+4*i+2) (le 2 z)
section
variable {f:Nat}
theorem yS (hl:b.length=512)(hi:30+4*i≤512): (l_ b i f z).length=512:=by
 grind[cJ,l_,bD]
theorem yT (hl:b.length=512)(hi:30+4*i≤512){j:Nat}(I:j<26+4*i∨30+4*i≤j): (l_ b i f z)[j]?=b[j]?:=by
 grind[cJ,l_,dM,bD]
theorem Cj (hl:b.length=512)(hi:30+4*i≤512)(I:f<65536)(hz:z<65536): bw (l_ b i f z) i=f∧dS (l_ b i f z) i=z:=by
 grind[cJ,bD,bw,l_,HQ,pE,dS]
end
def Au (b:List Nat)(n lo:Nat)(c:List Nat): List Nat:=l_ (az (az (az b 14 (le 2 (n+1))) lo c) 16 (le 2 lo)) n lo c.length
theorem fA.ins (h:fA b k link extra cs){c:List Nat}{lo:Nat}(hf:26+4*(cs.length+1)+(tot cs+c.length)≤512)(js:lo+(tot cs+c.length)=512): fA (Au b cs.length lo c) k link extra (cs++[c]):=by
 have hlen:=h.len
 have hle:∀n,(le 2 n).length=2:=fun n=>cJ 2 n
 have l1:(az b 14 (le 2 (cs.length+1))).length=512:=by grind[bD]
 have l2:(az (az b 14 (le 2 (cs.length+1))) lo c).length=512:=by rw[bD (by omega),l1]
 have l3:(az (az (az b 14 (le 2 (cs.length+1))) lo c) 16 (le 2 lo)).length=512:=by grind[bD]
 have l4:(Au b cs.length lo c).length=512:=yS l3 (by omega)
 have o3:∀i,i<16∨18≤i→(az (az (az b 14 (le 2 (cs.length+1))) lo c) 16 (le 2 lo))[i]?=(az (az b 14 (le 2 (cs.length+1))) lo c)[i]?:=fun i hi=>dM (by grind) (by grind)
 have o4:∀i,i<26+4*cs.length∨30+4*cs.length≤i→(Au b cs.length lo c)[i]?=(az (az (az b 14 (le 2 (cs.length+1))) lo c) 16 (le 2 lo))[i]?:=fun i hi=>yT l3 (by omega) hi
 -- what is neither count, low, the slot nor the cell
 have I:∀i,(i<14∨18≤i)→(i<26+4*cs.length∨30+4*cs.length≤i)→(i<lo∨lo+c.length≤i)→(Au b cs.length lo c)[i]?=b[i]?:=fun i h1 h2 h3=>by
  grind[dM]
 have rL:∀a z,(a+z≤14∨18≤a)→a+z≤26+4*cs.length→dI (Au b cs.length lo c) a z=dI b a z:=fun a z h1 h2=>dN fun i h3 h4=>I i (by omega) (by omega) (by omega)
 have ja:bw (Au b cs.length lo c) cs.length=lo∧dS (Au b cs.length lo c) cs.length=c.length:=Cj l3 (by omega) (by omega) (by omega)
 have aaR:tot (cs++[c])=tot cs+c.length:=by rw[tC];simp[tot]
 refine⟨l4,?_,?_,?_,?_,?_,?_,by grind,fun i x hx => ?_⟩
 ·rw[my (I 13 (by omega) (by omega) (by omega))];exact h.D_
 ·rw[my (I 12 (by omega) (by omega) (by omega))];exact h.kind
 ·rw[rL _ _ (by omega) (by omega)];exact h.link
 ·rw[rL _ _ (by omega) (by omega)];exact h.extra
 ·have e:dI (Au b cs.length lo c) 14 2=dI (az b 14 (le 2 (cs.length+1))) 14 2:=dN fun i h1 h2=>by
   grind[dM]
  grind[jy,pE]
 ·have e:dI (Au b cs.length lo c) 16 2=dI (az (az (az b 14 (le 2 (cs.length+1))) lo c) 16 (le 2 lo)) 16 2:=dN fun i h1 h2=>o4 i (by omega)
  grind[c9,pE]
 ·by_cases hi:i<cs.length
  ·rw[sU hi] at hx
   obtain⟨s1,s2,s3⟩:=h.slot i x hx<;>grind[bw,dS,kY]
  ·have fy:i=cs.length:=by
    grind
   subst fy
   rw[ie (aI _),gV] at hx
   have hx:c=x:=bW hx
   subst hx
   rw[ja.1,ja.2,gT (by simp),aaR]
   exact⟨js,rfl,fun j hj=>by grind[mM]⟩
def xT (b:List Nat)(i f:Nat)(c:List Nat): List Nat:=l_ (az b f c) i f c.length
theorem fA.rep (h:fA b k link extra cs)(hc:cs[i]?=some c)(hl:c'.length=c.length): fA (xT b i (bw b i) c') k link extra (cs.set i c'):=by
 obtain⟨s1,s2,s3⟩:=h.slot i c hc
 have hlen:=h.len
 have hi:=(List.getElem?_eq_some_iff.1 hc).1
 have oH:=h.low
 have cU:=h.fits
 have IN:=kY (cs:=cs) (i:=i+1)
 have K6:=iP hc
 have l1:(az b (bw b i) c').length=512:=by grind[bD]
 have l2:(xT b i (bw b i) c').length=512:=yS l1 (by omega)
 have o2:∀j,j<26+4*i∨30+4*i≤j→(xT b i (bw b i) c')[j]?=(az b (bw b i) c')[j]?:=fun j hj=>yT l1 (by omega) hj
 have I:∀j,(j<26+4*i∨30+4*i≤j)→(j<bw b i∨bw b i+c.length≤j)→(xT b i (bw b i) c')[j]?=b[j]?:=fun j h1 h2=>by grind[dM]
 have rL:∀a z,(a+z≤26+4*i∨30+4*i≤a)→a+z≤26+4*cs.length→dI (xT b i (bw b i) c') a z=dI b a z:=fun a z h1 h2=>dN fun j h3 h4=>I j (by omega) (by omega)
 have ja:bw (xT b i (bw b i) c') i=bw b i∧dS (xT b i (bw b i) c') i=c'.length:=Cj l1 (by omega) (by omega) (by omega)
 have vS:∀k,tot ((cs.set i c').take k)=tot (cs.take k):=YY hc hl
 have aaR:tot (cs.set i c')=tot cs:=by
  have:=vS cs.length
  grind[List.length_set]
 refine⟨l2,?_,?_,?_,?_,?_,?_,by grind,fun j x hx => ?_⟩
 ·rw[my (I 13 (by omega) (by omega))];exact h.D_
 ·rw[my (I 12 (by omega) (by omega))];exact h.kind
 ·rw[rL _ _ (by omega) (by omega)];exact h.link
 ·rw[rL _ _ (by omega) (by omega)];exact h.extra
 ·rw[jy,rL _ _ (by omega) (by omega),cI];exact h.fZ
 ·grind[c9]
 ·rw[vS]
  by_cases kg:i=j
  ·subst kg
   rw[jF hi] at hx
   have hx:c'=x:=bW hx
   subst hx
   rw[ja.1,ja.2]
   exact⟨s1,rfl,fun q hq=>by rw[o2 _ (by omega),mM (by omega) hq]⟩
  ·rw[lG kg] at hx
   obtain⟨r1,r2,r3⟩:=h.slot j x hx
   have hj:=(List.getElem?_eq_some_iff.1 hx).1
   have e1:bw (xT b i (bw b i) c') j=bw b j:=rL _ _ (by omega) (by omega)
   have e2:dS (xT b i (bw b i) c') j=dS b j:=rL _ _ (by omega) (by omega)
   have ht2:=iP hx
   have htj:=kY (cs:=cs) (i:=j+1)
   rw[e1,e2]
   refine⟨r1,r2,fun q hq => ?_⟩
   rw[I _ (by omega) ?_]
   ·grind
   ·rcases CS kg with q1|q1
    ·have:=As (cs:=cs) (i:=i+1) (j:=j) (by omega);omega
    ·have:=As (cs:=cs) (i:=j+1) (j:=i) (by omega);omega
theorem fA.cell (h:fA b k link extra cs)(I:cs[i]?=some c): (b.drop (bw b i)).take c.length=c:=by
 obtain⟨s1,s2,s3⟩:=h.slot i c I
 apply ny
 grind
end
section
variable {v:V} {m:List Nat}
theorem K7 {n b:Nat}(l7:a≤b)(hb:b≤n): ∃off I,slR (.sl id 0 n cap) a b=.sl id off (b-a) I∧off≤n:=by
 cases cap with
 |exact c =>
  simp only[slR]
  by_cases WY:c=a
  ·rw[rS WY,ah];exact⟨0,_,rfl,gu _⟩
  ·rw[fH WY,aV];exact⟨0+a*1,_,rfl,by omega⟩
 |rest e alt=>exact⟨0+a*1,_,rfl,by omega⟩
theorem NR {n:Nat}{cs:List V}(I:T.get h.tr id=some (.cells n cs false))(ho:off≤n)(hl:cs.length=n): wrN h id off []=some (h.put id (some (.cells n cs false))):=by
 simp only[wrN,I,cj]
 rw[aW.2 (by omega),ah]
 congr 3
 cases hc:(Nat.beq off 0&&Nat.beq 0 n) with
 |true =>
  simp only[bQ,beq_iff] at hc
  rw[ah]
  rw[ic (by omega:cs.length=0)]
 |false=>rw[aV,dG,eS,jG]
theorem Sq (s:Sat h (aU v l::X::S))(hX:cf X (cy w m)){b:Nat}(l7:a≤b)(hb:b≤l.length)(hl:1≤l.length):
  ∃h',copyV Tryz.prog h 29 (slR v a b) w=some (.int .i64 (min m.length (b-a):Nat),h')∧Sat h' (aU v (az l a (m.take (b-a)))::X::S):=by
 by_cases h1:a<b∧1≤m.length
 ·exact Kv s hX h1.1 hb h1.2
 ·have hm:min m.length (b-a)=0:=by omega
  have ht:m.take (b-a)=[]:=ic (by rw[cH];omega)
  have gm:az l a (m.take (b-a))=l:=by rw[ht,az];simp
  have hw:=(s.aC (k:=1) rfl hX).2
  have hv:=(s.buf (k:=0) rfl).view
  obtain⟨id,c,cap,rest,rfl,s1,hc,hf⟩:=s.eG hl
  obtain⟨off,Bt,e1,e2⟩:=K7 (id:=id) (cap:=cap) l7 hb
  rw[e1,gm,hm]
  have hg:=s1.row (k:=0) rfl
  have FN:=NR (off:=off) hg (by omega) (by rw[aX,dx];exact hc)
  have Aq:Sat (h.put id (some (.cells c (ofBytes l++rest) false))) (aU (.sl id 0 l.length cap) l::X::S):=hf _ _ rfl hv.1 (s1.put (k:=0) rfl)
  rcases hw with⟨rfl|⟨x,rfl⟩,_⟩|⟨sk,I,HE,n2,qw,st2,rfl,FM,q1,q2,q3,q4⟩
  ·exact⟨h,by simp only[copyV,aK,fB];rfl,s⟩
  ·exact⟨h,by simp only[copyV,aK,fB];rfl,s⟩
  ·refine⟨_,?_,Aq⟩
   have hr:rdN h sk I 0=some []:=by
    simp only[rdN,FM,eS]
    rw[aW.2 (by omega),ah]
    cases hq:(Nat.beq I 0&&Nat.beq 0 n2) with
    |true =>
     simp only[bQ,beq_iff] at hq
     rw[ah,ic (by omega:qw.length=0)]
    |false=>rw[aV,qZ]
   simp only[copyV,aK,fB]
   rw[show Nat.min m.length (b-a)=0 from hm,nC,hr]
   simp only
   rw[FN]
theorem IW (s:Sat h (aU v l::S)){b:Nat}(ha:a≤l.length)(hb:b≤l.length)(hl:1≤l.length):
  ∃h',copyV Tryz.prog h 29 (slR v a a) (slR v b b)=some (.int .i64 0,h')∧Sat h' (aU v l::S):=by
 have hv:=(s.buf (k:=0) rfl).view
 obtain⟨id,c,cap,rest,rfl,s1,hc,hf⟩:=s.eG hl
 obtain⟨off,Bt,e1,e2⟩:=K7 (id:=id) (cap:=cap) (aI _) ha
 obtain⟨I,HE,e3,e4⟩:=K7 (id:=id) (cap:=cap) (aI _) hb
 rw[e1,e3]
 have hg:=s1.row (k:=0) rfl
 have hle:(ofBytes l++rest).length=c:=by rw[aX,dx];exact hc
 have FN:=NR (off:=off) hg (by omega) hle
 refine⟨_,?_,hf _ _ rfl hv.1 (s1.put (k:=0) rfl)⟩
 have hr:rdN h id I 0=some []:=by
  simp only[rdN,hg,eS]
  rw[aW.2 (by omega),ah]
  cases hq:(Nat.beq I 0&&Nat.beq 0 c) with
  |true =>
   simp only[bQ,beq_iff] at hq
   rw[ah,ic (by omega:(ofBytes l++rest).length=0)]
  |false=>rw[aV,qZ]
 simp only[copyV,aK,fB,gV]
 rw[show Nat.min 0 0=0 from rfl,nC,hr]
 simp only
 rw[FN]
 rfl
end
section
variable {o:Oper} {v:V} {m:List Nat}
theorem OpR.JM {b:Nat}(hP:C.P=Tryz.prog)(s:Sat h (aU v l::X::S))(hX:cf X (cy u m))(I:o.op=.call cl)(hc:cl.callee=.builtin .copy)(yG:cl.argTypes = #[29,29])(ha:lookArgs E cl.args.toList=some [slR v a b,u])
 (l7:a≤b)(hb:b≤l.length)(hl:1≤l.length): OpR C E h o fun _ h₁=>Sat h₁ (aU v (az l a (m.take (b-a)))::X::S):=by
 obtain⟨h₁,e1,e2⟩:=Sq s hX l7 hb hl
 refine OpR.builtin I hc ha ⟨.int .i64 (min m.length (b-a):Nat),h₁,?_,e2⟩
 simp only[builtinV,hP,yG,e1]
theorem OpR.acu {b:Nat}(hP:C.P=Tryz.prog)(s:Sat h (aU v l::S))(I:o.op=.call cl)(hc:cl.callee=.builtin .copy)(yG:cl.argTypes = #[29,29])(hx:lookArgs E cl.args.toList=some [slR v a a,slR v b b])
 (ha:a≤l.length)(hb:b≤l.length)(hl:1≤l.length): OpR C E h o fun _ h₁=>Sat h₁ (aU v l::S):=by
 obtain⟨h₁,e1,e2⟩:=IW s ha hb hl
 refine OpR.builtin I hc hx ⟨.int .i64 0,h₁,?_,e2⟩
 simp only[builtinV,hP,yG,e1]
end
section
variable {told:cE} {v:V}
theorem sE (I:W told){f:Nat}(s:Sat h (aU v b::S))(hl:b.length=512)(hi:30+4*i≤512)(hf:f<65536)(hz:z<65536):
  Call ⟨Tryz.prog,told⟩ 122 [.agg [v],.int .i64 (i:Int),.int .i64 (f:Int),.int .i64 (z:Int)] h fun r h'=>r=.aT []∧Sat h' (aU v (l_ b i f z)::S):=by
 have hle:∀n,(le 2 n).length=2:=fun n=>cJ 2 n
 have l1:(az b (26+4*i) (le 2 f)).length=512:=by rw[bD (by rw[hle];omega),hl]
 obtain⟨lD,_,cap,_,rfl,_⟩:=s.eG (by omega)
 have e1:(26:Int)+4*(i:Int)=((26+4*i:Nat):Int):=by omega
 have e2:(26:Int)+4*(i:Int)+2=((26+4*i+2:Nat):Int):=by omega
 refine Call.of_wp (I.free _ rfl) Tryz.func122 rfl rfl (zg rfl ?_)
 refine au.b_ s rfl rfl rfl (eU rfl rfl) (fun p4 h s => ?_)
 refine zk 4 rfl (zb rfl (by exact jx (aq (by omega) (by omega))) ?_)
 refine zb rfl (by exact aQ (aq (by omega) (by omega))) ?_
 refine zk 4 rfl (zl rfl (s.b7 (k:=0) rfl bx aS) (zk 2 rfl (zo rfl (cL rfl (by exact kJ cm eM (iD (by omega) (by omega)))) ?_)))
 rw[e1]
 refine zc rfl (nQ (a:=26+4*i) (z:=2) (n:=f) I (s.ae [1]) (by decide) (by decide) (by omega) (by omega)) ?_
 rintro r h ⟨rfl,s⟩
 have s:=s.ae [1,0]
 refine zk 2 rfl (zl rfl (s.b7 (k:=0) rfl bx aS) (zm rfl (zo rfl (ak (r:=.int .i64 ((26+4*i+2:Nat):Int)) rfl rfl (by rw[←e2,←e1];exact aQ (aq (by omega) (by omega)))) ?_)))
 refine zm rfl (zo rfl (cL rfl (by exact kJ cm eM (iD (by omega) (by omega)))) ?_)
 refine zc rfl (nQ (a:=26+4*i+2) (z:=2) (n:=z) I (s.ae [1]) (by decide) (by decide) (by omega) (by omega)) ?_
 rintro r h ⟨rfl,s⟩
 exact zv ⟨aa,_,rfl,rfl,s.del 1⟩
theorem HR (hT:W told)(s:Sat h S)(hk:getA S k=some X)(hX:cf X (cy v b))(hp:fA b kd link extra cs)(hc:cs[i]?=some c):
  Call ⟨Tryz.prog,told⟩ 187 [.agg [v],.int .i64 (i:Int)] h fun r h'=>∃f,r=slR3 v f (f+c.length) (f+c.length)∧cf X (cy r c)∧Sat h' S:=by
 have hv:=s.aC hk hX
 have hl:=hp.len
 have hi:=(List.getElem?_eq_some_iff.1 hc).1
 have cU:=hp.fits
 have oH:=hp.low
 obtain⟨s1,s2,s3⟩:=hp.slot i c hc
 have IN:=kY (cs:=cs) (i:=i+1)
 have K6:=iP hc
 have I:=hp.cell hc
 generalize hf:bw b i=f at s1 s3 I
 obtain⟨pi,po,pc,rfl⟩:=iE hv (by omega)
 refine Call.of_wp (hT.free _ rfl) Tryz.func187 rfl rfl (zg rfl ?_)
 refine au.b_ s rfl rfl rfl (eU rfl rfl) (fun p2 h s => ?_)
 refine zk 4 rfl (zl rfl (s.b7 (k:=0) rfl bx aS) (zm rfl (zc rfl (tj hT s (kI hk) hX hl (by omega)) ?_)))
 rintro r h' ⟨rfl,s⟩
 rw[hf,s2]
 refine zk 8 rfl (zY s 0 dW bF rfl (zk 3 rfl (zb rfl (by exact aQ (aq (by omega) (by omega))) ?_)))
 refine zk 2 rfl (zb rfl (by exact aQ (aq (by omega) (by omega))) ?_)
 have e1:(f:Int)+(c.length:Int)=((f+c.length:Nat):Int):=by omega
 have ja:=tL (s.aC (kI hk) hX) (a:=f) (b:=f+c.length) (c:=f+c.length) (by omega) (aI _) (by omega) (by omega)
 rw[e1]
 refine zo rfl (bO (p:=some (.int .i64 (f:Int))) (q:=some (.int .i64 ((f+c.length:Nat):Int))) (m:=some (.int .i64 ((f+c.length:Nat):Int))) (p':=some f) (q':=some (f+c.length)) (m':=some (f+c.length)) rfl rfl rfl rfl (by rw[bT (by omega)];rfl) (by rw[bT (by omega)];rfl) (by rw[bT (by omega)];rfl) ja) ?_
 refine zk 2 rfl (WP.ret ⟨aa,_,rfl,?_⟩)
 refine⟨f,rfl,?_,s.drop⟩
 have:=BV hX (a:=f) (b:=f+c.length) (c:=f+c.length) (by omega) (aI _) (by omega) (by omega)
 rw[lM,show f+c.length-f=c.length by omega,I] at this
 exact this
theorem YZ (hT:W told)(s:Sat h S)(hk:getA S k=some X)(hX:cf X (cy v b))(I:fA b kd link extra cs):
  Call ⟨Tryz.prog,told⟩ 125 [.agg [v]] h fun r h'=>r=.int .i64 (486-(4*(cs.length:Int)+(tot cs:Int)))∧Sat h' S:=by
 have hv:=s.aC hk hX
 have hl:=I.len
 have cU:=I.fits
 have oH:=I.low
 obtain⟨pi,po,pc,rfl⟩:=iE hv (by omega)
 refine Call.of_wp (hT.free _ rfl) Tryz.func125 rfl rfl (zg rfl ?_)
 refine au.b_ s rfl rfl rfl (eU rfl rfl) (fun p1 h s => ?_)
 refine zk 3 rfl ?_
 have s0:=s
 refine WP.drawn [none,none,some (1,2),some (0,2),af,af,af,af] rfl (by kernel_rfl) (by kernel_rfl) ?_
 refine zL rfl (s.b7 (k:=0) rfl bx aS) (aB.any rfl rfl rfl rfl (OpR.call rfl rfl rfl rfl (B2 hT s (kI hk) hX hl)) ?_)
 rintro r h' ⟨rfl,s⟩
 have s1:=s
 refine zO rfl (ak rfl rfl (by exact ew (aq (by omega) (by omega)))) ?_
 refine zL rfl (s.b7 (k:=0) rfl bx aS) (aB.any rfl rfl rfl rfl (OpR.call rfl rfl rfl rfl (f_ hT s (kI hk) hX hl)) ?_)
 rintro r h' ⟨rfl,s⟩
 rw[I.fZ]
 refine zO rfl (ak rfl rfl (by exact jx (aq (by omega) (by omega)))) ?_
 refine zO rfl (ak rfl rfl (by exact ew (aq (by omega) (by omega)))) ?_
 refine zA rfl ?_
 refine aB.nil ⟨⟨aa,aa,fun _ _=>.inr ⟨rfl,⟨_,ak rfl rfl (by exact ew (aq (by omega) (by omega)))⟩,bg _ rfl⟩,fV (.inr ⟨rfl,⟨_,o_load rfl (s0.b7 (k:=0) rfl bx aS)⟩,bg _ rfl⟩) (.inr ⟨rfl,⟨_,o_load rfl (s1.b7 (k:=0) rfl bx aS)⟩,bg _ rfl⟩),aa,aa,aa,aa,aa⟩,?_⟩
 refine WP.ret ⟨aa,_,rfl,?_⟩
 exact⟨dn (V.int .i64) (by omega),s.drop⟩
noncomputable def pfL : Code:=eu [1,1,0,1,0,0] ((Tryz.f123.body).getD .skip)
theorem PV (hT:W told)(hX:cf X (cy x b))(Iu:x.cells=[x])(hp:fA b kd link extra cs): ∀(m i:Nat) (h:H) (E:List (Nat×V)) (Q:Ex→List (Nat×V)→H→Prop),i+m=cs.length →
  Sat h (pt p1 (.cells 1 [x] false)::X::S)→Has E [(1,.ptr p1 0),(3,.int .i64 (486-(4*(cs.length:Int)+(tot (cs.take i):Int)))),(12,.int .i64 (cs.length:Int)),(13,.int .i64 (i:Int))] →
  (∀E' h',Has E' [(3,.int .i64 (486-(4*(cs.length:Int)+(tot cs:Int))))]→Sat h' (pt p1 (.cells 1 [x] false)::X::S)→Q (.exit 0) E' h')→WP ⟨Tryz.prog,told⟩ 27 (.loop pfL) E h Q:=by
 have hl:=hp.len
 have cU:=hp.fits
 intro m
 induction m with
 |zero =>
  intro i h E Q hi s hE hq
  refine WP.loop (WP.has hE (zg rfl (zC rfl aO (by simp<;>omega) ?_)))
  refine zk 3 rfl (WP.exit ?_)
  refine hq _ _ ⟨?_,aa⟩ s
  rw[show cs.take i=cs from gT (by omega)]
  rfl
 |succ m ih =>
  intro i h E Q hi s hE hq
  have I:cs[i]?=some (cs[i]'(by omega)):=aG _
  generalize (cs[i]'(by omega))=c at I
  obtain⟨s1,s2,s3⟩:=hp.slot i c I
  have IN:=kY (cs:=cs) (i:=i+1)
  have K6:=iP I
  refine WP.loop (WP.has hE (zg rfl (zB rfl aO (by simp<;>omega) ?_)))
  refine zk 5 rfl (WP.block (zK 7 rfl (zl rfl (s.b7 (k:=0) rfl bx aS) (zm rfl (zc rfl (tj hT (i:=i) s (k:=1) rfl hX hl (by omega)) ?_)))))
  rintro r h' ⟨rfl,s⟩
  rw[s2]
  refine zk 9 rfl (zb rfl (by exact ew (aq (by omega) (by omega))) ?_)
  refine za rfl (zv (zr rfl (zb rfl (by exact aQ (aq (by omega) (by omega))) ?_)))
  refine zm rfl (zv ?_)
  refine ih (i+1) _ _ Q (by omega) s ⟨rfl,?_,rfl,rfl,aa⟩ hq
  exact dn (fun z=>some (V.int .i64 z)) (by omega)
theorem Vf (hT:W told)(s:Sat h (X::S))(hX:cf X (cy v b))(I:fA b kd link extra cs):
  Call ⟨Tryz.prog,told⟩ 123 [.agg [v]] h fun r h'=>r=.int .i64 (486-(4*(cs.length:Int)+(tot cs:Int)))∧Sat h' (X::S):=by
 have hv:=s.aC (k:=0) rfl hX
 have hl:=I.len
 have cU:=I.fits
 obtain⟨pi,po,pc,rfl⟩:=iE hv (by omega)
 refine Call.of_wp (hT.free _ rfl) Tryz.func123 rfl rfl (zg rfl ?_)
 refine au.b_ s rfl rfl rfl (eU rfl rfl) (fun p1 h s => ?_)
 refine zk 4 rfl (zl rfl (s.b7 (k:=0) rfl bx aS) (zc rfl (f_ hT s (k:=1) rfl hX hl) ?_))
 rintro r h' ⟨rfl,s⟩
 rw[I.fZ]
 refine zb rfl (by exact jx (aq (by omega) (by omega))) ?_
 refine zb rfl (by exact ew (aq (by omega) (by omega))) ?_
 refine zk 5 rfl (zl rfl (s.b7 (k:=0) rfl bx aS) (zc rfl (f_ hT s (k:=1) rfl hX hl) ?_))
 rintro r h' ⟨rfl,s⟩
 rw[I.fZ]
 refine zk 2 rfl (WP.block ?_)
 refine PV hT hX rfl I cs.length 0 _ _ _ (by omega) s ⟨rfl,?_,rfl,rfl,aa⟩ (fun E' h' hE s' => ?_)
 ·exact dn (fun z=>some (V.int .i64 z)) (by have:tot (cs.take 0)=0:=rfl;omega)
 have s:=s'
 exact WP.has hE (zK 5 rfl (WP.ret ⟨aa,_,rfl,rfl,s.del 0⟩))
theorem EE (I:W told)(s:Sat h (aU v b::X::S))(hX:cf X (cy x c))(hl:b.length=512)(hi:30+4*i≤512)(js:c9 b=lo+c.length)(PW:lo+c.length≤512):
  Call ⟨Tryz.prog,told⟩ 127 [.agg [v],.int .i64 (i:Int),x] h fun r h'=>r=.aT []∧Sat h' (aU v (l_ (az (az b lo c) 16 (le 2 lo)) i lo c.length)::X::S):=by
 have hle:∀n,(le 2 n).length=2:=fun n=>cJ 2 n
 have l1:(az b lo c).length=512:=by rw[bD (by omega),hl]
 have l2:(az (az b lo c) 16 (le 2 lo)).length=512:=by rw[bD (by rw[hle];omega),l1]
 obtain⟨lD,_,cap,_,rfl,_⟩:=s.eG (by omega)
 have hxv:=s.aC (k:=1) rfl hX
 have hx:=hxv.cells
 refine Call.of_wp (I.free _ rfl) Tryz.func127 rfl rfl (zg rfl ?_)
 refine au.b_ s rfl rfl rfl (eU rfl rfl) (fun p3 h s => ?_)
 refine zk 3 rfl (zl rfl (s.b7 (k:=0) rfl bx aS) (zc rfl (B2 I s (k:=1) rfl (aZ _ _) hl) ?_))
 rintro r h' ⟨rfl,s⟩
 rw[js]
 refine zm rfl (zo rfl (aD rfl rfl rfl (aY aK (s.aC (k:=2) rfl hX))) (zo rfl (ak (r:=.int .i64 (lo:Int)) rfl rfl (by rw[show((lo:Nat):Int)=((lo+c.length:Nat):Int)-(c.length:Int) by omega];exact ew (aq (by omega) (by omega)))) ?_))
 refine zk 4 rfl (zY s 0 dW bF rfl (zm rfl ?_))
 have ja:=hU (s.aC (k:=1) rfl (aZ _ _)) (a:=lo) (by omega)
 refine zo rfl (bO (p:=some (.int .i64 (lo:Int))) (q:=none) (m:=none) (p':=some lo) (q':=none) (m':=none) rfl rfl rfl rfl (by rw[bT (by omega)];rfl) rfl rfl ja.1) ?_
 refine zm rfl (au.any rfl rfl rfl (OpR.JM rfl (s.ae [1,1]) hX rfl rfl rfl rfl (by omega) (aI _) (by omega)) ?_)
 intro r h s
 rw[gT (by omega)] at s
 have s:=s.ae [2,0,0]
 refine zk 3 rfl (zl rfl (s.b7 (k:=0) rfl bx aS) (zm rfl (zo rfl (cL rfl (by exact kJ cm eM (iD (by omega) (by omega)))) ?_)))
 refine zc rfl (nQ (a:=16) (z:=2) (n:=lo) I (s.ae [1]) (by decide) (by decide) (by omega) (by omega)) ?_
 rintro r h ⟨rfl,s⟩
 have s:=s.ae [1,0,0]
 refine zk 2 rfl (zl rfl (s.b7 (k:=0) rfl bx aS) (zk 3 rfl (zo rfl (aD rfl rfl rfl (aY aK (s.aC (k:=2) rfl hX))) (zc rfl (sE (i:=i) (f:=lo) (z:=c.length) I (s.ae [1]) l2 hi (by omega) (by omega)) ?_))))
 rintro r h ⟨rfl,s⟩
 exact zv ⟨aa,_,rfl,rfl,s.del 1⟩
end
section
variable {told:cE} {v:V}
theorem IX (hT:W told)(s:Sat h S)(hkd:kd≤255):
  Call ⟨Tryz.prog,told⟩ 166 [.int .i64 (kd:Int)] h fun r h'=>∃u,r=.aT [u,.int .i64 0]∧Sat h' (aU u (xR kd)::S):=by
 refine Call.of_wp (hT.free _ rfl) Tryz.func166 rfl rfl (zK 9 rfl (zC rfl aO (by simp) ?_))
 refine zk 2 rfl (zC rfl cV (by simp;omega) ?_)
 refine zk 6 rfl (au.any rfl rfl rfl (OpR.JJ rfl s rfl rfl rfl rfl (by decide)) ?_)
 intro u h s
 have hl:(List.replicate 512 0).length=512:=gd
 have hn:xR kd=az ((List.replicate 512 0).set 12 kd) 16 (le 2 512):=rfl
 generalize List.replicate 512 0=l at hl hn s
 obtain⟨lD,_,cap,_,rfl,_⟩:=s.eG (by omega)
 refine zo rfl (cQ rfl (by rw[Ab];rfl)) ?_
 refine au.b_ s rfl rfl rfl (cu jo) (fun p4 h s => ?_)
 refine zS rfl (s.gX (j:=0) rfl aS rfl rfl) (fun h s => ?_)
 refine zk 3 rfl (zY s 0 dW bF rfl (zm rfl (zo rfl (cL rfl (by exact kJ cm Tryz.underlying5 (vX (by omega) (by omega)))) ?_)))
 have s:=s.ae [1,0]
 obtain⟨sk,I,e3,h2,e4,s2⟩:=qv s (i:=12) (b:=kd) (by omega) (by omega)
 have iA:(l.set 12 kd).length=512:=by rw[cI,hl]
 refine zo rfl (bS (r:=.ptr sk I) rfl rfl e3) (zS rfl (⟨h2,e4,s2⟩) ?_)
 rintro h s
 have s:=s.ae [1,0]
 refine zk 3 rfl (zl rfl (s.b7 (k:=0) rfl bx aS) (zc rfl (nQ (a:=16) (z:=2) (n:=512) hT (s.ae [1]) (by decide) (by decide) (by omega) (by omega)) ?_))
 rintro r h ⟨rfl,s⟩
 have s:=s.ae [1,0]
 refine zk 3 rfl (zY s 0 dW bF rfl (zk 3 rfl (WP.ret ⟨aa,_,rfl,?_⟩)))
 refine⟨_,rfl,?_⟩
 rw[hn]
 exact s.drop
theorem K8 (hT:W told)(s:Sat h S)(I:kd≤255):
  Call ⟨Tryz.prog,told⟩ 166 [.int .i64 (kd:Int)] h fun r h'=>∃u b,r=.aT [u,.int .i64 0]∧fA b kd 0 0 []∧Sat h' (aU u b::S) :=
 (IX hT s I).mono fun r h' ⟨u,e,s⟩=>⟨u,_,e,fA.new (k:=kd),s⟩
theorem NS (I:W told){lk ex:Nat}(s:Sat h (X::S))(hX:cf X (cy v b))(hp:fA b kd link extra cs)(hlk:lk<4294967296)(hex:ex<4294967296):
  Call ⟨Tryz.prog,told⟩ 167 [v,.int .i64 (lk:Int),.int .i64 (ex:Int)] h fun r h'=>∃u b',r=.aT [u,.int .i64 0]∧fA b' kd lk ex cs∧Sat h' (aU u b'::X::S):=by
 have hl:=hp.len
 have hle:∀n,(le 4 n).length=4:=fun n=>cJ 4 n
 have l1:(az b 18 (le 4 lk)).length=512:=by rw[bD (by rw[hle];omega),hl]
 refine Call.of_wp (I.free _ rfl) Tryz.func167 rfl rfl (zK 8 rfl (zc rfl (o9 I s hX (by omega)) ?_))
 rintro r h' (⟨hg,u,rfl,s⟩|⟨hg,rfl,s⟩)
 ·obtain⟨lD,_,cap,_,rfl,_⟩:=s.eG (by omega)
  refine zk 3 rfl ?_
  refine au.b_ s rfl rfl rfl (cu jo) (fun p8 h s => ?_)
  dsimp only[V.cells,List.length_cons,List.length_nil,Nat.reduceAdd] at s
  refine zS rfl (s.gX (j:=0) rfl aS rfl rfl) (fun h s => ?_)
  dsimp only[setA] at s
  refine zk 3 rfl (WP.block (zK 3 rfl (zC rfl aH (rfl) (zk 6 rfl (zC rfl aO (by simp) ?_)))))
  refine zk 2 rfl (zC rfl cV (by simp;omega) ?_)
  refine zk 3 rfl (zC rfl aO (by simp) ?_)
  refine zk 3 rfl (zC rfl cV (by simp;omega) ?_)
  refine zk 2 rfl (zv (zj rfl (WP.skip (zg rfl (zl rfl (by exact s.b7 (k:=0) rfl bx aS) ?_)))))
  refine zm rfl (zo rfl (cL rfl (by exact kJ cm eM (iD (by omega) (by omega)))) ?_)
  refine zc rfl (nQ (a:=18) (z:=4) (n:=lk) I (s.ae [1]) (by decide) (by decide) (by omega) (by omega)) ?_
  rintro r h' ⟨rfl,s⟩
  have s:=s.ae [1,0]
  refine zk 3 rfl (zl rfl (s.b7 (k:=0) rfl bx aS) (zm rfl (zo rfl (cL rfl (by exact kJ cm eM (iD (by omega) (by omega)))) ?_)))
  refine zc rfl (nQ (a:=22) (z:=4) (n:=ex) I (s.ae [1]) (by decide) (by decide) (by omega) (by omega)) ?_
  rintro r h' ⟨rfl,s⟩
  have s:=s.ae [1,0]
  exact zk 3 rfl (zY s 0 dW bF rfl (zk 3 rfl (WP.ret ⟨aa,_,rfl,_,_,rfl,hp.set hlk hex,s.drop⟩)))
 ·rw[hp.good] at hg;cases hg
theorem xn (hT:W told)(s:Sat h (X::S))(I:cf X (cy v l))(hl:l.length<1073741824):
  Call ⟨Tryz.prog,told⟩ 202 [v] h fun r h'=>Sat h' (aU r l::X::S):=by
 have hv:=s.aC (k:=0) rfl I
 refine Call.of_wp (hT.free _ rfl) Tryz.func202 rfl rfl (zK 7 rfl (zo rfl (aD rfl rfl rfl (aY aK (s.aC (k:=0) rfl I))) (au.any rfl rfl rfl (OpR.uc rfl s rfl rfl rfl rfl (by omega)) ?_)))
 intro u h s
 refine zm rfl (au.any rfl rfl rfl (OpR.qh rfl s I rfl rfl rfl rfl (by simp;omega)) ?_)
 intro u2 h s
 rw[dG] at s
 exact zk 2 rfl (WP.ret ⟨aa,_,rfl,s⟩)
theorem Vg (I:W told)(s:Sat h (X::S))(hX:cf X (cy v b))(hp:fA b kd link extra cs)(hc:cs[i]?=some c):
  Call ⟨Tryz.prog,told⟩ 164 [v,.int .i64 (i:Int)] h fun r h'=>∃u,r=.aT [u,.int .i64 0]∧Sat h' (aU u c::X::S):=by
 have hl:=hp.len
 have hv:=s.aC (k:=0) rfl hX
 have hi:=(List.getElem?_eq_some_iff.1 hc).1
 have cU:=hp.fits
 have IN:=kY (cs:=cs) (i:=i+1)
 have K6:=iP hc
 obtain⟨pi,po,pc,rfl⟩:=iE hv (by omega)
 refine Call.of_wp (I.free _ rfl) Tryz.func164 rfl rfl (zK 8 rfl (zc rfl (ue I s hX (by omega)) ?_))
 rintro r h' ⟨s,(⟨hg,rfl⟩|⟨hg,rfl⟩)⟩
 ·refine au.op rfl rfl rfl (bV rfl) ?_
  refine zk 2 rfl ?_
  refine au.b_ s rfl rfl rfl (cu jo) (fun p6 h s => ?_)
  dsimp only[V.cells,List.length_cons,List.length_nil,Nat.reduceAdd] at s
  refine zS rfl (s.gX (j:=0) rfl aS rfl rfl) (fun h s => ?_)
  dsimp only[setA] at s
  refine zk 3 rfl (WP.block (zK 3 rfl (zC rfl aH (rfl) (zk 6 rfl (zC rfl aO (by simp) ?_)))))
  refine zk 2 rfl (zl rfl (s.b7 (k:=0) rfl bx aS) (zc rfl (f_ I s (k:=1) rfl hX hl) ?_))
  rintro r h' ⟨rfl,s⟩
  rw[hp.fZ]
  refine zC rfl mV (by simp;omega) ?_
  refine zk 2 rfl (zv (zj rfl (WP.skip (zg rfl (zl rfl (by exact s.b7 (k:=0) rfl bx aS) ?_)))))
  refine zm rfl (zc rfl (HR (i:=i) I s (k:=1) rfl hX hp hc) ?_)
  rintro r h' ⟨f,rfl,hr,s⟩
  refine zc rfl (xn I (s.ae [1]) hr (by omega)) ?_
  intro u h s
  exact zk 3 rfl (WP.ret ⟨aa,_,rfl,_,rfl,s.del 2⟩)
 ·rw[hp.good] at hg;cases hg
end
theorem qP : ∃i,Tryz.prog.info? 29=some i∧i.size=1∧i.bytes=24 :=
 ⟨_,(show Tryz.prog.info? 29=some ((Tryz.prog.info? 29).getD default) by kernel_rfl),by kernel_rfl,by kernel_rfl⟩
section
variable {told:cE} {v:V}
theorem NT (I:W told)(s:Sat h (X::Y::S))(hX:cf X (cy v b))(hY:cf Y (cy x c))(hp:fA b kd link extra cs)(hf:26+4*(cs.length+1)+(tot cs+c.length)≤512):
  Call ⟨Tryz.prog,told⟩ 53 [v,.int .i64 (cs.length:Int),x] h fun r h'=>∃u b',r=.aT [u,.int .i64 0]∧fA b' kd link extra (cs++[c])∧Sat h' (aU u b'::X::Y::S):=by
 have hl:=hp.len
 have oH:=hp.low
 have hle:∀n,(le 2 n).length=2:=fun n=>cJ 2 n
 generalize hn:cs.length=n at hf
 have qH:=hp.fZ
 have js:∃lo,lo+(tot cs+c.length)=512:=⟨512-(tot cs+c.length),by omega⟩
 obtain⟨lo,js⟩:=js
 have l1:(az b 14 (le 2 (n+1))).length=512:=by grind[bD]
 have iA:c9 (az b 14 (le 2 (n+1)))=lo+c.length:=by
  grind[c9,HQ]
 refine Call.of_wp (I.free _ rfl) Tryz.func53 rfl rfl (zK 8 rfl (zc rfl (o9 I s hX (by omega)) ?_))
 rintro r h' (⟨hg,u,rfl,s⟩|⟨hg,rfl,s⟩)
 ·obtain⟨lD,_,cap,_,rfl,_⟩:=s.eG (by omega)
  refine zk 3 rfl ?_
  refine au.b_ s rfl rfl rfl (cu jo) (fun p8 h s => ?_)
  dsimp only[V.cells,List.length_cons,List.length_nil,Nat.reduceAdd] at s
  refine zS rfl (s.gX (j:=0) rfl aS rfl rfl) (fun h s => ?_)
  dsimp only[setA] at s
  refine zk 3 rfl (WP.block (zK 3 rfl (zC rfl aH (rfl) (zk 6 rfl (zC rfl aO (by simp) ?_)))))
  refine zk 2 rfl (zl rfl (s.b7 (k:=0) rfl bx aS) (zc rfl (f_ I s (k:=1) rfl (aZ _ _) hl) ?_))
  rintro r h' ⟨rfl,s⟩
  rw[qH,hn]
  refine zC rfl cV (by simp) ?_
  refine zk 6 rfl (zl rfl (s.b7 (k:=0) rfl bx aS) (zc rfl (Vf I (s.ae [1]) (aZ _ _) hp) ?_))
  rintro r h' ⟨rfl,s⟩
  have s:=s.ae [1,0]
  dsimp only[aL,bringA,getA] at s
  rw[hn]
  refine zm rfl (zo rfl (aD rfl rfl rfl (aY aK (s.aC (k:=3) rfl hY))) (zb rfl (by exact aQ (aq (by omega) (by omega))) ?_))
  refine zC rfl aO (by grind) ?_
  refine za rfl (zv (zj rfl (WP.skip (zw (zg rfl (zl rfl (by exact s.b7 (k:=0) rfl bx aS) ?_))))))
  refine zc rfl (YZ I s (k:=1) rfl (aZ _ _) hp) ?_
  rintro r h' ⟨rfl,s⟩
  rw[hn]
  refine zm rfl (zo rfl (aD rfl rfl rfl (aY aK (s.aC (k:=3) rfl hY))) (zb rfl (by exact aQ (aq (by omega) (by omega))) ?_))
  refine zC rfl aO (by grind) ?_
  refine zv (zj rfl (WP.skip (zg rfl (zl rfl (by exact s.b7 (k:=0) rfl bx aS) ?_))))
  refine zc rfl (f_ I s (k:=1) rfl (aZ _ _) hl) ?_
  rintro r h' ⟨rfl,s⟩
  rw[qH,hn]
  refine zk 3 rfl ?_
  have q1:((26:Int)+4*((n:Int)+1)).toNat=30+4*n:=by omega
  have q2:((26:Int)+4*(n:Int)).toNat=26+4*n:=by omega
  have s0:=s
  refine WP.drawn [af,af,af,af,af,af,af,af,af,af,af,af,af,af,af,af,af,af,af,af,af] rfl (by kernel_rfl) (by kernel_rfl) ?_
  refine zF rfl (dW _ _) (zL rfl (s.ld (k:=0) rfl bF rfl) (zM rfl (zO rfl (ak rfl rfl (by exact aQ (aq (by omega) (by omega)))) ?_)))
  refine zO rfl (ak rfl rfl (by exact jx (aq (by omega) (by omega)))) ?_
  refine zO rfl (ak rfl rfl (by exact aQ (aq (by omega) (by omega)))) ?_
  refine zM rfl (zO rfl (ak rfl rfl (by exact aQ (aq (by omega) (by omega)))) ?_)
  refine zO rfl (ak rfl rfl (by exact jx (aq (by omega) (by omega)))) ?_
  refine zO rfl (ak rfl rfl (by exact aQ (aq (by omega) (by omega)))) ?_
  refine zO rfl (bO (p:=some (.int .i64 (26+4*((n:Int)+1)))) (q:=some (.int .i64 (26+4*((n:Int)+1)))) (m:=none) (p':=some (30+4*n)) (q':=some (30+4*n)) (m':=none) rfl rfl rfl rfl (by rw[bT (by omega),q1]) (by rw[bT (by omega),q1]) rfl (fE (s.buf (k:=1) rfl).view (aI _) (by omega)).1) ?_
  refine zF rfl (dW _ _) (zL rfl (s.ld (k:=0) rfl bF rfl) (zM rfl (zO rfl (ak rfl rfl (by exact jx (aq (by omega) (by omega)))) ?_)))
  refine zO rfl (ak rfl rfl (by exact aQ (aq (by omega) (by omega)))) ?_
  refine zM rfl (zO rfl (ak rfl rfl (by exact jx (aq (by omega) (by omega)))) ?_)
  refine zO rfl (ak rfl rfl (by exact aQ (aq (by omega) (by omega)))) ?_
  refine zO rfl (bO (p:=some (.int .i64 (26+4*(n:Int)))) (q:=some (.int .i64 (26+4*(n:Int)))) (m:=none) (p':=some (26+4*n)) (q':=some (26+4*n)) (m':=none) rfl rfl rfl rfl (by rfl) (by rfl) rfl (fE (s.buf (k:=1) rfl).view (aI _) (by omega)).1) ?_
  refine aB.any rfl rfl rfl rfl (OpR.acu rfl (s.ae [1]) rfl rfl rfl rfl (by omega) (by omega) (by omega)) ?_
  intro r h s
  have s:=s.ae [1,0]
  refine aB.nil ⟨⟨aa,aa,aa,aa,aa,aa,aa,aa,aa,aa,aa,aa,aa,aa,aa,aa,aa,aa,aa,aa,aa,aa⟩,?_⟩
  refine zg rfl (zl rfl (s.b7 (k:=0) rfl bx aS) (zm rfl (zb rfl (by exact aQ (aq (by omega) (by omega))) ?_)))
  refine zo rfl (cL rfl (by exact kJ cm eM (iD (by omega) (by omega)))) ?_
  have en:(n:Int)+1=((n+1:Nat):Int):=by omega
  rw[en]
  refine zc rfl (nQ (a:=14) (z:=2) (n:=n+1) I (s.ae [1]) (by decide) (by decide) (by omega) (by omega)) ?_
  rintro r h ⟨rfl,s⟩
  have s:=s.ae [1,0]
  refine zk 3 rfl (zl rfl (s.b7 (k:=0) rfl bx aS) (zk 2 rfl (zc rfl (EE (i:=n) (lo:=lo) I (s.ae [1,2]) hY l1 (by omega) iA (by omega)) ?_)))
  rintro r h ⟨rfl,s⟩
  have s:=s.ae [2,0,1,0]
  refine zk 3 rfl (zY s 0 dW bF rfl (zk 3 rfl (WP.ret ⟨aa,_,rfl,?_⟩)))
  subst hn
  exact⟨_,_,rfl,hp.ins hf js,s.drop⟩
 ·rw[hp.good] at hg;cases hg
theorem NU (hT:W told)(s:Sat h (X::Y::S))(hX:cf X (cy v b))(hY:cf Y (cy x c'))(hp:fA b kd link extra cs)(hc:cs[i]?=some c)(NV:c'.length=c.length):
  Call ⟨Tryz.prog,told⟩ 51 [v,.int .i64 (i:Int),x] h fun r h'=>∃u b',r=.aT [u,.int .i64 0]∧fA b' kd link extra (cs.set i c')∧Sat h' (aU u b'::X::Y::S):=by
 have hl:=hp.len
 have cU:=hp.fits
 have hi:=(List.getElem?_eq_some_iff.1 hc).1
 have K6:=iP hc
 have I:=hp.rep hc NV
 obtain⟨s1,s2,s3⟩:=hp.slot i c hc
 generalize hf:bw b i=f at s1 s3 I
 have l1:(az b f c').length=512:=by rw[bD (by omega),hl]
 refine Call.of_wp (hT.free _ rfl) Tryz.func51 rfl rfl (zK 8 rfl (zc rfl (o9 hT s hX (by omega)) ?_))
 rintro r h' (⟨hg,u,rfl,s⟩|⟨hg,rfl,s⟩)
 ·obtain⟨lD,_,cap,_,rfl,_⟩:=s.eG (by omega)
  refine zk 3 rfl ?_
  refine au.b_ s rfl rfl rfl (cu jo) (fun p8 h s => ?_)
  dsimp only[V.cells,List.length_cons,List.length_nil,Nat.reduceAdd] at s
  refine zS rfl (s.gX (j:=0) rfl aS rfl rfl) (fun h s => ?_)
  dsimp only[setA] at s
  refine zk 3 rfl (WP.block (zK 3 rfl (zC rfl aH (rfl) (zk 6 rfl (zC rfl aO (by simp) ?_)))))
  refine zk 2 rfl (zl rfl (s.b7 (k:=0) rfl bx aS) (zc rfl (f_ hT s (k:=1) rfl (aZ _ _) hl) ?_))
  rintro r h' ⟨rfl,s⟩
  rw[hp.fZ]
  refine zC rfl mV (by grind) ?_
  refine zk 2 rfl (zv (zj rfl (WP.skip (zg rfl (zl rfl (by exact s.b7 (k:=0) rfl bx aS) ?_)))))
  refine zm rfl (zc rfl (tj (i:=i) hT s (k:=1) rfl (aZ _ _) hl (by omega)) ?_)
  rintro r h' ⟨rfl,s⟩
  rw[hf,s2]
  refine zk 10 rfl (zo rfl (aD rfl rfl rfl (aY aK (s.aC (k:=3) rfl hY))) (zm rfl (zB rfl r9 (by grind) ?_)))
  refine zk 4 rfl (zY s 0 dW bF rfl (zm rfl ?_))
  have ja:=hU (s.aC (k:=1) rfl (aZ _ _)) (a:=f) (by omega)
  refine zo rfl (bO (p:=some (.int .i64 (f:Int))) (q:=none) (m:=none) (p':=some f) (q':=none) (m':=none) rfl rfl rfl rfl (by rfl) rfl rfl ja.1) ?_
  refine zm rfl (au.any rfl rfl rfl (OpR.JM rfl (s.ae [1,2]) hY rfl rfl rfl rfl (by omega) (aI _) (by omega)) ?_)
  intro r h s
  rw[gT (by omega)] at s
  have s:=s.ae [2,0,1,0]
  refine zk 3 rfl (zl rfl (s.b7 (k:=0) rfl bx aS) (zk 3 rfl (zo rfl (aD rfl rfl rfl (aY aK (s.aC (k:=3) rfl hY))) (zc rfl (sE (i:=i) (f:=f) (z:=c'.length) hT (s.ae [1]) l1 (by omega) (by omega) (by omega)) ?_))))
  rintro r h ⟨rfl,s⟩
  have s:=s.ae [1,0]
  exact zk 3 rfl (zY s 0 dW bF rfl (zk 3 rfl (WP.ret ⟨aa,_,rfl,_,_,rfl,I,s.drop⟩)))
 ·rw[hp.good] at hg;cases hg
theorem PX (I:W told){c0 c1:List Nat}(s:Sat h (X::S))(hX:cf X (cy v b))(hp:fA b kd link extra [c0,c1]):
  Call ⟨Tryz.prog,told⟩ 160 [v] h fun r h'=>∃w u0 u1,r=.aT [w,.int .i64 0]∧Sat h' (.arr 1 w [u0,u1]::aU u0 c0::aU u1 c1::X::S):=by
 have hl:=hp.len
 have hv:=s.aC (k:=0) rfl hX
 have cU:=hp.fits
 simp only[tot,bq,cj] at cU
 obtain⟨pi,po,pc,rfl⟩:=iE hv (by omega)
 obtain⟨i1,dy,fy,o8⟩:=qP
 refine Call.of_wp (I.free _ rfl) KV rfl rfl (zK 8 rfl (zc rfl (ue I s hX (by omega)) ?_))
 rintro r h' ⟨s,(⟨hg,rfl⟩|⟨hg,rfl⟩)⟩
 ·refine au.op rfl rfl rfl (bV rfl) ?_
  refine zk 2 rfl ?_
  refine au.b_ s rfl rfl rfl (cu jo) (fun p4 h s => ?_)
  dsimp only[V.cells,List.length_cons,List.length_nil,Nat.reduceAdd] at s
  refine zS rfl (s.gX (j:=0) rfl aS rfl rfl) (fun h s => ?_)
  dsimp only[setA] at s
  refine zk 6 rfl (zC rfl aH (rfl) (zk 5 rfl (zl rfl (s.b7 (k:=0) rfl bx aS) (zc rfl (f_ I s (k:=1) rfl hX hl) ?_))))
  rintro r h' ⟨rfl,s⟩
  rw[show jy b=2 from hp.fZ]
  obtain⟨wv,h1,e3,s1⟩:=IG (P:=Tryz.prog) s aP dy lq fy (by omega) rfl (by decide) (by decide) (n:=0) (c:=2) (by decide) (by decide)
  refine au.any rfl rfl rfl (OpR.of (R:=fun v h'=>v=wv∧h'=h1) (Dg rfl rfl e3) ⟨rfl,rfl⟩) ?_
  rintro w0 h ⟨rfl,rfl⟩
  have s:Sat h (.arr 1 w0 []::_):=s1
  have s:=s.ae [1,1,0]
  dsimp only[bringA,getA,aL] at s
  refine zk 5 rfl (zl rfl (s.b7 (k:=0) rfl bx aS) (zc rfl (f_ I s (k:=1) rfl hX hl) ?_))
  rintro r h' ⟨rfl,s⟩
  rw[show jy b=2 from hp.fZ]
  refine zk 2 rfl (WP.block (WP.loop (zg rfl (zB rfl aO (by decide) ?_))))
  refine zk 5 rfl (WP.block (zK 7 rfl (zl rfl (s.b7 (k:=0) rfl bx aS) (zm rfl (zc rfl (HR (i:=0) (c:=c0) I s (k:=1) rfl hX hp rfl) ?_)))))
  rintro r h' ⟨f,rfl,hr,s⟩
  refine zc rfl (xn I (s.ae [1]) hr (by omega)) ?_
  intro u0 h s
  have Xf:=(s.buf (k:=0) rfl).view.cells
  have s:=s.ae [3]
  dsimp only[aL,bringA,getA] at s
  obtain⟨iv,h1,wj,s1⟩:=lR (P:=Tryz.prog) (k:=1) (x:=u0) s aP lq dH rfl (by decide) (by decide) (by grind) (by grind)
  rw[Xf.1] at s1
  refine au.any rfl rfl rfl (OpR.of (R:=fun v h'=>v=iv∧h'=h1) (ku rfl wj) ⟨rfl,rfl⟩) ?_
  rintro v' h' ⟨rfl,rfl⟩
  obtain⟨av,h2,sB,s2⟩:=h_ (s1.ae [1,0]) aP dy lq fy (by omega) rfl (by decide) (by simp)
  dsimp only[List.nil_append,aL,bringA] at s2
  refine au.any rfl rfl rfl (OpR.of (R:=fun v h'=>v=av∧h'=h2) (j_ rfl rfl sB) ⟨rfl,rfl⟩) ?_
  rintro v' h ⟨rfl,rfl⟩
  have s:=(s2.del 1).ae [3,2,0,0]
  dsimp only[aL,bringA,getA] at s
  refine za rfl (zv (zr rfl (zb rfl (by exact aQ (aq (by omega) (by omega))) ?_)))
  refine zm rfl (zv (WP.loop (zg rfl (zt rfl (ak rfl rfl aO) (by decide) ?_))))
  refine zk 5 rfl (WP.block (zK 7 rfl (zl rfl (s.b7 (k:=0) rfl bx aS) (zm rfl (zc rfl (HR (i:=1) (c:=c1) I s (k:=1) rfl hX hp rfl) ?_)))))
  rintro r h' ⟨f1,rfl,Xe,s⟩
  refine zc rfl (xn I (s.ae [1]) Xe (by omega)) ?_
  intro u1 h s
  have Xg:=(s.buf (k:=0) rfl).view.cells
  have s:=s.ae [3]
  dsimp only[aL,bringA,getA] at s
  obtain⟨iv1,h1,wj,s1⟩:=lR (P:=Tryz.prog) (k:=1) (x:=u1) s aP lq dH rfl (by decide) (by decide) (by grind) (by grind)
  rw[Xg.1] at s1
  refine au.any rfl rfl rfl (OpR.of (R:=fun v h'=>v=iv1∧h'=h1) (ku rfl wj) ⟨rfl,rfl⟩) ?_
  rintro v' h' ⟨rfl,rfl⟩
  obtain⟨av1,h2,sB,s2⟩:=h_ (s1.ae [1,0]) aP dy lq fy (by omega) rfl (by decide) (by simp)
  dsimp only[List.cons_append,List.nil_append,aL,bringA] at s2
  refine au.any rfl rfl rfl (OpR.of (R:=fun v h'=>v=av1∧h'=h2) (j_ rfl rfl sB) ⟨rfl,rfl⟩) ?_
  rintro v' h ⟨rfl,rfl⟩
  have s:=(s2.del 1).ae [3,2,0,1,0]
  dsimp only[aL,bringA,getA] at s
  refine za rfl (zv (zr rfl (zb rfl (by exact aQ (aq (by omega) (by omega))) ?_)))
  refine zm rfl (zv (WP.loop (zg rfl (zh rfl (ak rfl rfl aO) (by decide) ?_))))
  exact zk 3 rfl (WP.exit (zK 6 rfl (WP.ret ⟨aa,_,rfl,_,_,_,rfl,(s.ae [2,2,2,1]).del 4⟩)))
 ·rw[hp.good] at hg;cases hg
end
structure bH (b:List Nat)(k link extra:Nat)(cs:List (List Nat)): Prop where
 len:b.length=512
 D_:b.getD 13 0=0
 kind:b.getD 12 0=k
 link:dI b 18 4=link
 extra:dI b 22 4=extra
 fZ:jy b=cs.length
 low:26+4*cs.length≤c9 b∧c9 b≤512
 fits:26+4*cs.length+tot cs≤512
 slot:∀i c,cs[i]?=some c→c9 b≤bw b i∧bw b i+c.length≤512∧dS b i=c.length∧∀j,j<c.length→b[bw b i+j]?=c[j]?
 NX:∀i j c d,i≠j→cs[i]?=some c→cs[j]?=some d→bw b i+c.length≤bw b j∨bw b j+d.length≤bw b i∨c.length=0∨d.length=0
section
theorem fA.f (h:fA b k link extra cs): bH b k link extra cs:=by
 have oH:=h.low
 have cU:=h.fits
 have main:∀i j c d,i<j→cs[i]?=some c→cs[j]?=some d→bw b j+d.length≤bw b i:=fun i j c d qm I hd=>by
  obtain⟨s1,_,_⟩:=h.slot i c I
  obtain⟨r1,_,_⟩:=h.slot j d hd
  have t1:=iP hd
  have t2:=As (cs:=cs) (i:=i+1) (j:=j) (by omega)
  omega
 refine⟨h.len,h.D_,h.kind,h.link,h.extra,h.fZ,by omega,cU,fun i c I => ?_,fun i j c d qm I hd => ?_⟩
 ·obtain⟨s1,s2,s3⟩:=h.slot i c I
  have t1:=iP I
  have t2:=kY (cs:=cs) (i:=i+1)
  exact⟨by omega,by omega,s2,s3⟩
 ·rcases CS qm with q|q
  ·exact .inr (.inl (main i j c d q I hd))
  ·exact .inl (main j i d c q hd I)
theorem bH.cells (h:bH b k link extra cs): ∀(n i:Nat) (t:List Bool),i+n=cs.length→t.length=512→(∀q d,i≤q→cs[q]?=some d→∀j,bw b q≤j→j<bw b q+d.length→t.getD j false=false)→cellsL b (c9 b) n i t=true:=by
 intro n
 induction n with
 |zero=>intro i t _ _ _;rfl
 |succ n ih =>
  intro i t hi ht hf
  have I:cs[i]?=some (cs[i]'(by omega)):=aG _
  generalize (cs[i]'(by omega))=c at I
  obtain⟨s0,s1,s2,s3⟩:=h.slot i c I
  obtain⟨t',e1,e2,e3⟩:=K5 c.length (bw b i) t (by omega) (fun j a1 a2=>hf i c (aI _) I j a1 a2)
  rw[cellsL,s2,ai (by omega),e1]
  refine ih (i+1) t' (by omega) (by omega) fun q d hq hd j a1 a2 => ?_
  rw[e3 j (by
   have:=h.NX i q c d (by omega) I hd
   omega)]
  exact hf q d (by omega) hd j a1 a2
theorem bH.good (h:bH b k link extra cs): cF b=true:=by
 have I:=h.low
 rw[cF,dB h.len,dB h.D_,dB (by rw[h.fZ];omega),h.cells _ _ _ (by rw[h.fZ];omega) gd fun q d _ _ j _ _ => ?_]
 ·rfl
 grind
theorem bH.cell (h:bH b k link extra cs)(I:cs[i]?=some c): (b.drop (bw b i)).take c.length=c:=by
 obtain⟨s0,s1,s2,s3⟩:=h.slot i c I
 apply ny
 grind
theorem bH.HS (h:bH b k link extra cs)(hl:b'.length=512)(hh:∀i,12≤i→i<14∨18≤i→i<26→b'[i]?=b[i]?)(hn:jy b'=cs'.length)(I:c9 b'=lo)(h1:26+4*cs'.length≤lo)(h2:lo≤512)(hf:26+4*cs'.length+tot cs'≤512)
 (hs:∀i c,cs'[i]?=some c→lo≤bw b' i∧bw b' i+c.length≤512∧dS b' i=c.length∧∀j,j<c.length→b'[bw b' i+j]?=c[j]?)
 (hd:∀i j c d,i<j→cs'[i]?=some c→cs'[j]?=some d→bw b' i+c.length≤bw b' j∨bw b' j+d.length≤bw b' i∨c.length=0∨d.length=0): bH b' k link extra cs':=by
 refine⟨hl,?_,?_,?_,?_,hn,by rw[I];exact⟨h1,h2⟩,hf,by rw[I];exact hs,fun i j c d qm hc A3 => ?_⟩
 ·rw[my (hh 13 (by decide) (by decide) (by decide))];exact h.D_
 ·rw[my (hh 12 (by decide) (by decide) (by decide))];exact h.kind
 ·rw[dN (m:=b) fun i a1 a2=>hh i (by omega) (by omega) (by omega)];exact h.link
 ·rw[dN (m:=b) fun i a1 a2=>hh i (by omega) (by omega) (by omega)];exact h.extra
 ·rcases CS qm with q|q
  ·exact hd i j c d q hc A3
  ·rcases hd j i d c q A3 hc with e|e|e|e
   ·exact .inr (.inl e)
   ·exact .inl e
   ·exact .inr (.inr (.inr e))
   ·exact .inr (.inr (.inl e))
theorem bH.tail (h:bH b k link extra cs)(hl:b'.length=512)(ht:b'.drop 12=b.drop 12): bH b' k link extra cs:=by
 have hg:∀i,12≤i→b'[i]?=b[i]?:=fun i hi=>by
  have:=dn (fun l:List Nat=>l[i-12]?) ht
  grind
 have I:∀a z,12≤a→dI b' a z=dI b a z:=fun a z q=>wz ht q
 have hF:∀i,bw b' i=bw b i:=fun i=>I _ _ (by omega)
 have hZ:∀i,dS b' i=dS b i:=fun i=>I _ _ (by omega)
 refine h.HS hl (fun i h1 _ _=>hg i h1) (by rw[jy,I _ _ (by decide)];exact h.fZ) (by rw[c9,I _ _ (by decide)];rfl) h.low.1 h.low.2 h.fits (fun i c hc => ?_) fun i j c d qm hc hd=>by rw[hF,hF];exact h.NX i j c d (by omega) hc hd
 have oH:=h.low
 obtain⟨s0,s1,s2,s3⟩:=h.slot i c hc
 rw[hF,hZ]
 exact⟨s0,s1,s2,fun j hj=>by rw[hg _ (by omega)];exact s3 j hj⟩
def cW {α:Type}(i:Nat)(c:α)(l:List α): List α:=l.take i++c::l.drop i
theorem kS {c:α}{l:List α}(hi:i≤l.length): (cW i c l).length=l.length+1:=by
 simp[cW];omega
theorem mX {c:α}{l:List α}(hi:i≤l.length): (cW i c l)[j]?=if j<i then l[j]? else if j=i then some c else l[j-1]?:=by
 grind[cW]
theorem wA {l:List (List Nat)}: tot (cW i c l)=tot l+c.length:=by
 have:=tC (a:=l.take i) (b:=l.drop i)
 rw[jG] at this
 rw[cW,tC,tot];omega
def pF (b:List Nat)(i n:Nat): List Nat:=az b (30+4*i) ((b.drop (26+4*i)).take (4*(n-i)))
def ob (b:List Nat)(i n lo:Nat)(c:List Nat): List Nat:=l_ (az (az (az (pF b i n) 14 (le 2 (n+1))) lo c) 16 (le 2 lo)) i lo c.length
theorem NY {n:Nat}(hl:b.length=512)(hi:i≤n)(I:30+4*n≤512): (pF b i n).length=512:=by
 grind[pF,bD]
theorem NZ {n:Nat}(hl:b.length=512)(hi:i≤n)(I:30+4*n≤512)(hj:j<30+4*i∨30+4*n≤j): (pF b i n)[j]?=b[j]?:=by
 unfold pF
 rw[dM (by grind) (by grind)]
theorem aaS {n:Nat}(hl:b.length=512)(hi:i≤n)(I:30+4*n≤512)(h1:26+4*i≤j)(h2:j<26+4*n): (pF b i n)[j+4]?=b[j]?:=by
 have e:j+4=(30+4*i)+(j-(26+4*i)):=by omega
 rw[pF,e,mM (by grind) (by grind)]
 grind
theorem xo {m:List Nat}{d:Nat}(h:∀i,a≤i→i<a+z→l[i+d]?=m[i]?): dI l (a+d) z=dI m a z:=by
 unfold dI
 congr 1
 apply ny
 intro i
 simp only[fb,ig]
 by_cases hi:i<z
 ·rw[ay (by omega),ay (by omega)]
  have:=h (a+i) (by omega) (by omega)
  rwa [show a+i+d=a+d+i by omega] at this
 ·rw[ai (by omega),ai (by omega)]
theorem bH.ins (h:bH b k link extra cs)(hi:i≤cs.length)(js:lo+c.length=c9 b)(hr:30+4*cs.length≤lo)(hf:26+4*(cs.length+1)+(tot cs+c.length)≤512): bH (ob b i cs.length lo c) k link extra (cW i c cs):=by
 have hlen:=h.len
 have oH:=h.low
 have hle:∀n,(le 2 n).length=2:=fun n=>cJ 2 n
 have l0:=NY hlen hi (by omega)
 have l1:(az (pF b i cs.length) 14 (le 2 (cs.length+1))).length=512:=by grind[bD]
 have l2:(az (az (pF b i cs.length) 14 (le 2 (cs.length+1))) lo c).length=512:=by rw[bD (by omega),l1]
 have l3:(az (az (az (pF b i cs.length) 14 (le 2 (cs.length+1))) lo c) 16 (le 2 lo)).length=512:=by grind[bD]
 have l4:(ob b i cs.length lo c).length=512:=yS l3 (by omega)
 have o3:∀j,j<16∨18≤j→(az (az (az (pF b i cs.length) 14 (le 2 (cs.length+1))) lo c) 16 (le 2 lo))[j]?=(az (az (pF b i cs.length) 14 (le 2 (cs.length+1))) lo c)[j]?:=fun j hj=>dM (by grind) (by grind)
 have o4:∀j,j<26+4*i∨30+4*i≤j→(ob b i cs.length lo c)[j]?=(az (az (az (pF b i cs.length) 14 (le 2 (cs.length+1))) lo c) 16 (le 2 lo))[j]?:=fun j hj=>yT l3 (by omega) hj
 have o1:∀j,(j<14∨16≤j)→(az (pF b i cs.length) 14 (le 2 (cs.length+1)))[j]?=(pF b i cs.length)[j]?:=fun j hj=>dM (by grind) (by grind)
 have o2:∀j,(j<lo∨lo+c.length≤j)→(az (az (pF b i cs.length) 14 (le 2 (cs.length+1))) lo c)[j]?=(az (pF b i cs.length) 14 (le 2 (cs.length+1)))[j]?:=fun j hj=>dM (by omega) hj
 have oS:∀j,(j<14∨18≤j)→(j<26+4*i∨30+4*i≤j)→(j<lo∨lo+c.length≤j)→(ob b i cs.length lo c)[j]?=(pF b i cs.length)[j]?:=fun j a1 a2 a3=>by
  rw[o4 j a2,o3 j (by omega),o2 j a3,o1 j (by omega)]
 have xU:∀j,(j<14∨18≤j)→(j<26+4*i∨30+4*cs.length≤j)→(j<lo∨lo+c.length≤j)→(ob b i cs.length lo c)[j]?=b[j]?:=fun j a1 a2 a3=>by
  rw[oS j a1 (by omega) a3,NZ hlen hi (by omega) (by omega)]
 have xb:∀j,26+4*i≤j→j<26+4*cs.length→(ob b i cs.length lo c)[j+4]?=b[j]?:=fun j a1 a2=>by
  rw[oS (j+4) (by omega) (by omega) (by omega),aaS hlen hi (by omega) a1 a2]
 have ja:bw (ob b i cs.length lo c) i=lo∧dS (ob b i cs.length lo c) i=c.length:=Cj l3 (by omega) (by omega) (by omega)
 have cq:∀j,j<i→bw (ob b i cs.length lo c) j=bw b j∧dS (ob b i cs.length lo c) j=dS b j:=fun j hj =>
  ⟨dN fun q a1 a2=>xU q (by omega) (by omega) (by omega),dN fun q a1 a2=>xU q (by omega) (by omega) (by omega)⟩
 have Io:∀j,i≤j→j<cs.length→bw (ob b i cs.length lo c) (j+1)=bw b j∧dS (ob b i cs.length lo c) (j+1)=dS b j:=fun j a1 a2 =>
  ⟨xo (a:=26+4*j) fun q b1 b2=>xb q (by omega) (by omega),xo (a:=26+4*j+2) fun q b1 b2=>xb q (by omega) (by omega)⟩
 have qH:jy (ob b i cs.length lo c)=cs.length+1:=by
  have e:dI (ob b i cs.length lo c) 14 2=dI (az (pF b i cs.length) 14 (le 2 (cs.length+1))) 14 2:=dN fun j h1 h2=>by
   rw[o4 j (by omega),o3 j (by omega),o2 j (by omega)]
  rw[jy,e,pE (by omega) (by omega)]
 have N3:c9 (ob b i cs.length lo c)=lo:=by
  have e:dI (ob b i cs.length lo c) 16 2=dI (az (az (az (pF b i cs.length) 14 (le 2 (cs.length+1))) lo c) 16 (le 2 lo)) 16 2:=dN fun j h1 h2=>o4 j (by omega)
  rw[c9,e,pE (by omega) (by omega)]
 have hold:∀j d,cs[j]?=some d→∃j',(cW i c cs)[j']?=some d∧bw (ob b i cs.length lo c) j'=bw b j:=fun j d I=>by
  have hj:=(List.getElem?_eq_some_iff.1 I).1
  by_cases q:j<i
  ·exact⟨j,by rw[mX hi,ay q];exact I,(cq j q).1⟩
  ·exact⟨j+1,by rw[mX hi,ai (by omega),ai (by omega)];exact I,(Io j (by omega) hj).1⟩
 have yU:∀j d,(cW i c cs)[j]?=some d→(j=i∧d=c)∨∃j0,cs[j0]?=some d∧bw (ob b i cs.length lo c) j=bw b j0∧dS (ob b i cs.length lo c) j=dS b j0∧(j=j0∧j<i∨j=j0+1∧i<j):=fun j d I=>by
  rw[mX hi] at I
  by_cases q:j<i
  ·rw[ay q] at I
   exact .inr ⟨j,I,(cq j q).1,(cq j q).2,.inl ⟨rfl,q⟩⟩
  ·rw[ai q] at I
   by_cases q2:j=i
   ·rw[ay q2] at I;exact .inl ⟨q2,(bW I).symm⟩
   ·rw[ai q2] at I
    have hj:=(List.getElem?_eq_some_iff.1 I).1
    have g:=Io (j-1) (by omega) hj
    rw[show j-1+1=j by omega] at g
    exact .inr ⟨j-1,I,g.1,g.2,.inr ⟨by omega,by omega⟩⟩
 refine h.HS l4 (fun j a1 a2 a3=>xU j (by omega) (by omega) (by omega)) (by rw[qH,kS hi]) N3 (by rw[kS hi];omega) (by omega) (by rw[kS hi,wA];omega) (fun j d I => ?_) fun j j2 d d2 hjj I A3 => ?_
 ·rcases yU j d I with⟨rfl,rfl⟩|⟨j0,wW,e1,e2,_⟩
  ·rw[ja.1,ja.2]
   refine⟨aI _,by omega,rfl,fun q hq => ?_⟩
   rw[o4 _ (by omega),o3 _ (by omega),mM (by omega) hq]
  ·obtain⟨s0,s1,s2,s3⟩:=h.slot j0 d wW
   rw[e1,e2]
   exact⟨by omega,s1,s2,fun q hq=>by rw[xU _ (by omega) (by omega) (by omega)];exact s3 q hq⟩
 ·rcases yU j d I with⟨rfl,rfl⟩|⟨j0,wW,e1,e2,e3⟩
  ·rcases yU j2 d2 A3 with⟨rfl,rfl⟩|⟨j0,wW,e1,e2,_⟩
   ·omega
   ·obtain⟨s0,s1,s2,s3⟩:=h.slot j0 d2 wW
    rw[ja.1,e1];left;omega
  ·obtain⟨s0,s1,s2,s3⟩:=h.slot j0 d wW
   rcases yU j2 d2 A3 with⟨rfl,rfl⟩|⟨j4,Sr,e4,e5,e6⟩
   ·rw[ja.1,e1];right;left;omega
   ·rw[e1,e4]
    exact h.NX j0 j4 d d2 (by omega) wW Sr
def A4 (b:List Nat)(i n:Nat): List Nat:=az (az (az b (26+4*i) ((b.drop (30+4*i)).take (4*(n-1-i)))) (22+4*n) (List.replicate 4 0)) 14 (le 2 (n-1))
theorem IY : ∀ {cs:List (List Nat)} {i:Nat},tot (cs.eraseIdx i)≤tot cs:=by
 intro cs
 induction cs with
 |nil=>intro i;simp[tot]
 |cons c cs I =>
  intro i
  cases i with
  |zero=>simp[tot]
  |succ i=>have:=I (i:=i);simp only[List.eraseIdx_cons_succ,tot];omega
theorem bH.rm (h:bH b k link extra cs)(hi:i<cs.length)(js:lo=c9 b∨cs.length=1∧lo=512): bH (if lo=c9 b then A4 b i cs.length else az (A4 b i cs.length) 16 (le 2 lo)) k link extra (cs.eraseIdx i):=by
 have hlen:=h.len
 have oH:=h.low
 have cU:=h.fits
 have hle:∀n,(le 2 n).length=2:=fun n=>cJ 2 n
 generalize hn:cs.length=n at hi js oH cU
 have l1:(az b (26+4*i) ((b.drop (30+4*i)).take (4*(n-1-i)))).length=512:=by grind[bD]
 have l2:(az (az b (26+4*i) ((b.drop (30+4*i)).take (4*(n-1-i)))) (22+4*n) (List.replicate 4 0)).length=512:=by grind[bD]
 have l3:(A4 b i n).length=512:=by grind[A4,bD]
 have o3:∀j,j<14∨16≤j→(A4 b i n)[j]?=(az (az b (26+4*i) ((b.drop (30+4*i)).take (4*(n-1-i)))) (22+4*n) (List.replicate 4 0))[j]?:=fun j hj=>dM (by grind) (by grind)
 have o2:∀j,j<22+4*n∨26+4*n≤j→(az (az b (26+4*i) ((b.drop (30+4*i)).take (4*(n-1-i)))) (22+4*n) (List.replicate 4 0))[j]?=(az b (26+4*i) ((b.drop (30+4*i)).take (4*(n-1-i))))[j]?:=fun j hj=>dM (by grind) (by grind)
 have o1:∀j,j<26+4*i∨22+4*n≤j→(az b (26+4*i) ((b.drop (30+4*i)).take (4*(n-1-i))))[j]?=b[j]?:=fun j hj=>dM (by grind) (by grind)
 have i1:∀j,30+4*i≤j→j<26+4*n→(az b (26+4*i) ((b.drop (30+4*i)).take (4*(n-1-i))))[j-4]?=b[j]?:=fun j a1 a2=>by
  rw[show j-4=26+4*i+(j-(30+4*i)) by omega,mM (by grind) (by grind)]
  grind
 obtain⟨b',p_⟩:∃b',(if lo=c9 b then A4 b i n else az (A4 b i n) 16 (le 2 lo))=b':=⟨_,rfl⟩
 rw[p_]
 have l4:b'.length=512:=by rw[←p_];split<;>grind[bD]
 have o4:∀j,j<16∨18≤j→b'[j]?=(A4 b i n)[j]?:=fun j hj=>by
  rw[←p_];split
  ·rfl
  ·exact dM (by grind) (by grind)
 have N3:c9 b'=lo:=by
  rw[←p_];split
  ·rename_i e
   rw[e,c9,c9]
   exact dN fun j a1 a2=>by rw[o3 j (by omega),o2 j (by omega),o1 j (by omega)]
  ·rw[c9,pE (by omega) (by omega)]
 have I:∀j,(j<14∨18≤j)→(j<26+4*i∨26+4*n≤j)→b'[j]?=b[j]?:=fun j a1 a2=>by
  rw[o4 j (by omega),o3 j (by omega),o2 j (by omega),o1 j (by omega)]
 have qH:jy b'=n-1:=by
  have e:dI b' 14 2=dI (A4 b i n) 14 2:=dN fun j h1 h2=>o4 j (by omega)
  rw[jy,e,A4,pE (by omega) (by omega)]
 have cq:∀j,j<i→bw b' j=bw b j∧dS b' j=dS b j:=fun j hj =>
  ⟨dN fun q a1 a2=>I q (by omega) (by omega),dN fun q a1 a2=>I q (by omega) (by omega)⟩
 have xb:∀j,26+4*i≤j→j<22+4*n→b[j+4]?=b'[j]?:=fun j a1 a2=>by
  rw[o4 j (by omega),o3 j (by omega),o2 j (by omega),←i1 (j+4) (by omega) (by omega)];rfl
 have Io:∀j,i≤j→j<n-1→bw b' j=bw b (j+1)∧dS b' j=dS b (j+1):=fun j a1 a2 =>
  ⟨(xo (a:=26+4*j) fun q b1 b2=>xb q (by omega) (by omega)).symm,(xo (a:=26+4*j+2) fun q b1 b2=>xb q (by omega) (by omega)).symm⟩
 have AS:(cs.eraseIdx i).length=n-1:=by rw[GU,ay (by omega),hn]
 have yU:∀j d,(cs.eraseIdx i)[j]?=some d→∃j0,cs[j0]?=some d∧bw b' j=bw b j0∧dS b' j=dS b j0∧(j=j0∧j<i∨j+1=j0∧i≤j):=fun j d hd=>by
  have hj:=(List.getElem?_eq_some_iff.1 hd).1
  rw[x_] at hd
  by_cases q:j<i
  ·rw[ay q] at hd
   exact⟨j,hd,(cq j q).1,(cq j q).2,.inl ⟨rfl,q⟩⟩
  ·rw[ai q] at hd
   exact⟨j+1,hd,(Io j (by omega) (by omega)).1,(Io j (by omega) (by omega)).2,.inr ⟨rfl,by omega⟩⟩
 have hte:=IY (cs:=cs) (i:=i)
 refine h.HS l4 (fun j a1 a2 a3=>I j (by omega) (by omega)) (by rw[qH,AS]) N3 (by rw[AS];omega) (by omega) (by rw[AS];omega) (fun j d hd => ?_) fun j j2 d d2 hjj hd A3 => ?_
 ·have hj:=(List.getElem?_eq_some_iff.1 hd).1
  obtain⟨j0,wW,e1,e2,_⟩:=yU j d hd
  obtain⟨s0,s1,s2,s3⟩:=h.slot j0 d wW
  rw[e1,e2]
  exact⟨by omega,s1,s2,fun q hq=>by rw[I _ (by omega) (by omega)];exact s3 q hq⟩
 ·obtain⟨j0,wW,e1,e2,e3⟩:=yU j d hd
  obtain⟨j4,Sr,e4,e5,e6⟩:=yU j2 d2 A3
  rw[e1,e4]
  exact h.NX j0 j4 d d2 (by omega) wW Sr
theorem pZ (I:cs[i]?=some c): tot (cs.set i c')+c.length=tot cs+c'.length:=by
 induction cs generalizing i with
 |nil=>simp at I
 |cons x cs ih =>
  cases i with
  |zero=>simp at I;subst I;simp only[List.set_cons_zero,tot];omega
  |succ i=>have:=ih (i:=i) (by simpa using I);simp only[List.set_cons_succ,tot];omega
theorem bH.K9 (h:bH b k link extra cs){f:Nat}{b1:List Nat}(hc:cs[i]?=some c)(l1:b1.length=512)(js:c9 b1=lo)(PW:lo≤c9 b)(hr:26+4*cs.length≤lo)(uI:lo≤f)(IZ:f+c'.length≤512)(cU:26+4*cs.length+tot (cs.set i c')≤512)
 (hb:∀j,12≤j→(j<16∨18≤j)→(j<f∨f+c'.length≤j)→b1[j]?=b[j]?)(xb:∀j,j<c'.length→b1[f+j]?=c'[j]?)
 (hd:f+c'.length≤c9 b∨c'.length=0∨f=bw b i∧c'.length≤c.length): bH (l_ b1 i f c'.length) k link extra (cs.set i c'):=by
 have hi:=(List.getElem?_eq_some_iff.1 hc).1
 have oH:=h.low
 have l2:(l_ b1 i f c'.length).length=512:=yS l1 (by omega)
 have o2:∀j,j<26+4*i∨30+4*i≤j→(l_ b1 i f c'.length)[j]?=b1[j]?:=fun j hj=>yT l1 (by omega) hj
 have xU:∀j,12≤j→(j<16∨18≤j)→(j<26+4*i∨30+4*i≤j)→(j<f∨f+c'.length≤j)→(l_ b1 i f c'.length)[j]?=b[j]?:=fun j a1 a2 a3 a4=>by rw[o2 j a3,hb j a1 a2 a4]
 have ja:bw (l_ b1 i f c'.length) i=f∧dS (l_ b1 i f c'.length) i=c'.length:=Cj l1 (by omega) (by omega) (by omega)
 have eZ:∀j,j≠i→j<cs.length→bw (l_ b1 i f c'.length) j=bw b j∧dS (l_ b1 i f c'.length) j=dS b j:=fun j a1 a2 =>
  ⟨dN fun q b1 b2=>xU q (by omega) (by omega) (by omega) (by omega),dN fun q b1 b2=>xU q (by omega) (by omega) (by omega) (by omega)⟩
 have gy:∀j d,j≠i→cs[j]?=some d→d.length=0∨c'.length=0∨bw b j+d.length≤f∨f+c'.length≤bw b j:=fun j d hj I=>by
  obtain⟨s0,s1,s2,s3⟩:=h.slot j d I
  have:=h.NX i j c d (jH hj) hc I
  omega
 have yU:∀j d,(cs.set i c')[j]?=some d→(j=i∧d=c')∨(j≠i∧cs[j]?=some d∧j<cs.length):=fun j d I=>by
  by_cases q:i=j
  ·subst q
   rw[jF hi] at I
   exact .inl ⟨rfl,(bW I).symm⟩
  ·rw[lG q] at I
   exact .inr ⟨jH q,I,(List.getElem?_eq_some_iff.1 I).1⟩
 have A5:(cs.set i c').length=cs.length:=cI
 refine h.HS l2 (fun j a1 a2 a3=>xU j a1 (by omega) (by omega) (by omega)) ?_ ?_ (by rw[A5];exact hr) (by omega) (by rw[A5];exact cU) (fun j d I => ?_) fun j j2 d d2 hjj I A3 => ?_
 ·rw[A5,←h.fZ]
  exact dN fun q a1 a2=>xU q (by omega) (by omega) (by omega) (by omega)
 ·rw[←js]
  exact dN fun q a1 a2=>o2 q (by omega)
 ·rcases yU j d I with⟨rfl,rfl⟩|⟨q1,q2,q3⟩
  ·rw[ja.1,ja.2]
   exact⟨uI,IZ,rfl,fun q hq=>by rw[o2 _ (by omega)];exact xb q hq⟩
  ·obtain⟨s0,s1,s2,s3⟩:=h.slot j d q2
   rw[(eZ j q1 q3).1,(eZ j q1 q3).2]
   have:=gy j d q1 q2
   exact⟨by omega,s1,s2,fun q hq=>by rw[xU _ (by omega) (by omega) (by omega) (by omega)];exact s3 q hq⟩
 ·rcases yU j d I with⟨rfl,rfl⟩|⟨q1,q2,q3⟩
  ·rcases yU j2 d2 A3 with⟨rfl,rfl⟩|⟨r1,r2,r3⟩
   ·omega
   ·have:=gy j2 d2 r1 r2
    rw[ja.1,(eZ j2 r1 r3).1];omega
  ·rcases yU j2 d2 A3 with⟨rfl,rfl⟩|⟨r1,r2,r3⟩
   ·have:=gy j d q1 q2
    rw[ja.1,(eZ j q1 q3).1];omega
   ·rw[(eZ j q1 q3).1,(eZ j2 r1 r3).1]
    exact h.NX j j2 d d2 (by omega) q2 r2
theorem bH.rep (h:bH b k link extra cs)(hc:cs[i]?=some c)(hl:c'.length≤c.length): bH (xT b i (bw b i) c') k link extra (cs.set i c'):=by
 obtain⟨s0,s1,s2,s3⟩:=h.slot i c hc
 have hlen:=h.len
 have I:=h.low
 have cU:=h.fits
 have ht:=pZ (c':=c') hc
 have hi:=(List.getElem?_eq_some_iff.1 hc).1
 have l1:(az b (bw b i) c').length=512:=by rw[bD (by omega),hlen]
 refine h.K9 hc l1 ?_ (aI _) I.1 s0 (by omega) (by omega) (fun j _ _ a3=>dM (by omega) a3) (fun j hj=>mM (by omega) hj) (.inr (.inr ⟨rfl,hl⟩))
 exact dN fun q a1 a2=>dM (by omega) (by omega)
theorem bH.none (h:bH b k link extra cs)(hc:cs[i]?=some c): bH (l_ b i (c9 b) 0) k link extra (cs.set i []):=by
 have I:=h.low
 have cU:=h.fits
 have ht:=pZ (c':=[]) hc
 rw[cj] at ht
 exact h.K9 (c':=[]) hc h.len rfl (aI _) I.1 (aI _) (by simpa using I.2) (by omega) (fun j _ _ _=>rfl) (fun j hj=>by cases hj) (.inr (.inl rfl))
theorem bH.below (h:bH b k link extra cs)(hc:cs[i]?=some c)(js:lo+c'.length=c9 b)(hr:26+4*cs.length≤lo)(I:26+4*cs.length+tot (cs.set i c')≤512): bH (l_ (az (az b lo c') 16 (le 2 lo)) i lo c'.length) k link extra (cs.set i c'):=by
 have hlen:=h.len
 have oH:=h.low
 have hle:∀n,(le 2 n).length=2:=fun n=>cJ 2 n
 have l0:(az b lo c').length=512:=by rw[bD (by omega),hlen]
 have l1:(az (az b lo c') 16 (le 2 lo)).length=512:=by grind[bD]
 have o1:∀j,j<16∨18≤j→(az (az b lo c') 16 (le 2 lo))[j]?=(az b lo c')[j]?:=fun j hj=>dM (by grind) (by grind)
 refine h.K9 hc l1 (by rw[c9,pE (by omega) (by omega)]) (by omega) hr (aI _) (by omega) I (fun j _ a2 a3=>by rw[o1 j a2,dM (by omega) a3]) (fun j hj=>by rw[o1 _ (by omega),mM (by omega) hj]) (.inl (by omega))
structure An (b0:List Nat)(cs:List (List Nat))(i:Nat)(b:List Nat): Prop where
 len:b.length=512
 head:∀j,j<26→b[j]?=b0[j]?
 slot:∀j c,j<i→cs[j]?=some c→bw b j+tot (cs.take (j+1))=512∧dS b j=c.length∧∀q,q<c.length→b[bw b j+q]?=c[q]?
theorem An.start (hl:b0.length=512): An b0 cs 0 b0:=⟨hl,fun _ _=>rfl,fun j c h=>by omega⟩
theorem An.step (h:An b0 cs i b)(hf:26+4*cs.length+tot cs≤512)(hc:cs[i]?=some c)(js:lo+tot (cs.take (i+1))=512): An b0 cs (i+1) (l_ (az b lo c) i lo c.length):=by
 have hlen:=h.len
 have hi:=(List.getElem?_eq_some_iff.1 hc).1
 have t1:=iP hc
 have t2:=kY (cs:=cs) (i:=i+1)
 have l1:(az b lo c).length=512:=by rw[bD (by omega),hlen]
 have l2:(l_ (az b lo c) i lo c.length).length=512:=yS l1 (by omega)
 have o2:∀j,j<26+4*i∨30+4*i≤j→(l_ (az b lo c) i lo c.length)[j]?=(az b lo c)[j]?:=fun j I=>yT l1 (by omega) I
 have o1:∀j,j<lo∨lo+c.length≤j→(az b lo c)[j]?=b[j]?:=fun j I=>dM (by omega) I
 have ja:bw (l_ (az b lo c) i lo c.length) i=lo∧dS (l_ (az b lo c) i lo c.length) i=c.length:=Cj l1 (by omega) (by omega) (by omega)
 refine⟨l2,fun j I=>by rw[o2 j (by omega),o1 j (by omega)];exact h.head j I,fun j d I hd => ?_⟩
 by_cases q:j=i
 ·subst q
  rw[hc] at hd
  obtain rfl:=bW hd
  rw[ja.1,ja.2]
  exact⟨js,rfl,fun q hq=>by rw[o2 _ (by omega),mM (by omega) hq]⟩
 ·obtain⟨s1,s2,s3⟩:=h.slot j d (by omega) hd
  have hj2:=(List.getElem?_eq_some_iff.1 hd).1
  have t3:=As (cs:=cs) (i:=j+1) (j:=i) (by omega)
  have t4:=iP hd
  have t5:=kY (cs:=cs) (i:=j+1)
  have e1:bw (l_ (az b lo c) i lo c.length) j=bw b j:=dN fun q a1 a2=>by rw[o2 q (by omega),o1 q (by omega)]
  have e2:dS (l_ (az b lo c) i lo c.length) j=dS b j:=dN fun q a1 a2=>by rw[o2 q (by omega),o1 q (by omega)]
  rw[e1,e2]
  exact⟨s1,s2,fun q hq=>by rw[o2 _ (by omega),o1 _ (by omega)];exact s3 q hq⟩
def Gh (b:List Nat)(n lo:Nat): List Nat:=az (az b (26+4*n) (List.replicate (lo-(26+4*n)) 0)) 16 (le 2 lo)
theorem An.done (h:An b0 cs cs.length b)(I:bH b0 k link extra cs)(js:lo+tot cs=512): fA (Gh b cs.length lo) k link extra cs:=by
 have hlen:=h.len
 have hf:=I.fits
 have hle:∀n,(le 2 n).length=2:=fun n=>cJ 2 n
 have l1:(az b (26+4*cs.length) (List.replicate (lo-(26+4*cs.length)) 0)).length=512:=by rw[bD (by rw[gd];omega),hlen]
 have l2:(Gh b cs.length lo).length=512:=by grind[Gh,bD]
 have o2:∀j,j<16∨18≤j→(Gh b cs.length lo)[j]?=(az b (26+4*cs.length) (List.replicate (lo-(26+4*cs.length)) 0))[j]?:=fun j hj=>dM (by grind) (by grind)
 have o1:∀j,j<26+4*cs.length∨lo≤j→(az b (26+4*cs.length) (List.replicate (lo-(26+4*cs.length)) 0))[j]?=b[j]?:=fun j hj=>dM (by rw[gd];omega) (by rw[gd];omega)
 have hh:∀j,j<16∨18≤j→j<26→(Gh b cs.length lo)[j]?=b0[j]?:=fun j a1 a2=>by rw[o2 j a1,o1 j (by omega)];exact h.head j a2
 refine⟨l2,?_,?_,?_,?_,?_,?_,hf,fun i c hc => ?_⟩
 ·rw[my (hh 13 (by decide) (by decide))];exact I.D_
 ·rw[my (hh 12 (by decide) (by decide))];exact I.kind
 ·rw[dN (m:=b0) fun i a1 a2=>hh i (by omega) (by omega)];exact I.link
 ·rw[dN (m:=b0) fun i a1 a2=>hh i (by omega) (by omega)];exact I.extra
 ·rw[jy,dN (m:=b0) fun i a1 a2=>hh i (by omega) (by omega)];exact I.fZ
 ·have:c9 (Gh b cs.length lo)=lo:=by rw[c9,Gh,pE (by omega) (by omega)]
  omega
 ·have hi:=(List.getElem?_eq_some_iff.1 hc).1
  obtain⟨s1,s2,s3⟩:=h.slot i c hi hc
  have t1:=iP hc
  have t2:=kY (cs:=cs) (i:=i+1)
  have e1:bw (Gh b cs.length lo) i=bw b i:=dN fun q a1 a2=>by rw[o2 q (by omega),o1 q (by omega)]
  have e2:dS (Gh b cs.length lo) i=dS b i:=dN fun q a1 a2=>by rw[o2 q (by omega),o1 q (by omega)]
  rw[e1,e2]
  exact⟨s1,s2,fun q hq=>by rw[o2 _ (by omega),o1 _ (by omega)];exact s3 q hq⟩
end
abbrev Ky := List Nat
variable {hi:Option Ky}
abbrev En := Ky×Ky
variable {es eL eR jA fP:List En}
def ey (e:En): List Nat:=e.1.length::(e.1++e.2)
def eX (n:Nat)(k:Ky): List Nat:=le 4 n++k
structure gG where
 key:Ky
 pg:Nat
 es:List En
 ps:List Nat
variable {k1:gG} {ks:List gG}
def ej (k:gG): List Nat:=k.pg::k.ps
def bP (ks:List gG): List (List Nat):=ks.map fun k=>eX k.pg k.key
def Bd (lo:Ky)(hi:Option Ky)(k:Ky): Prop:=lo≤k∧∀h,hi=some h→k<h
structure jc (lo:Ky)(hi:Option Ky)(es:List En): Prop where
 bd:∀e∈es,Bd lo hi e.1
 sz:∀e∈es,1≤e.1.length∧e.1.length≤96∧e.2.length≤128
 kK:es.Pairwise fun a b=>a.1<b.1
def loK (lo:Ky)(ks:List gG)(i:Nat): Ky:=if i=0 then lo else match ks[i]? with|some k=>k.key|none=>[]
def cZ (hi:Option Ky)(ks:List gG)(i:Nat): Option Ky:=match ks[i+1]? with|some k=>some k.key|none=>hi
structure Sep (lo:Ky)(hi:Option Ky)(ks:List gG): Prop where
 ne:ks≠[]
 pg:∀k∈ks,k.pg<4294967296
 len:∀k∈ks,k.key.length≤96
 sz:∀(i:Nat) (k:gG),ks[i]?=some k→1≤i→1≤k.key.length
 bd:∀(i:Nat) (k:gG),ks[i]?=some k→1≤i→lo<k.key∧∀h,hi=some h→k.key<h
 kK:∀(i j:Nat) (k m:gG),ks[i]?=some k→ks[j]?=some m→1≤i→i<j→k.key<m.key
def Nv (F:Nat→List (List Nat)→Prop)(P:Int→List Nat): Nat→Ky→Option Ky→List (List Nat)→List En→List Nat→Prop
 |0,lo,hi,cs,es,ps=>cs=es.map ey∧jc lo hi es∧ps=[]
 |l+1,lo,hi,cs,es,ps=>∃ks:List gG,cs=bP ks∧Sep lo hi ks∧es=ks.flatMap (·.es)∧ps=ks.flatMap ej ∧
   ∀i k,ks[i]?=some k→∃cs',Nv F P l (loK lo ks i) (cZ hi ks i) cs' k.es k.ps∧F l cs'∧bH (P k.pg) 204 0 l cs'
section
variable {P:Int→List Nat} {l n:Nat} {lo:Ky}
theorem eC : (bP ks).length=ks.length:=bX _
theorem jB {k:gG}(h:ks[i]?=some k): (bP ks)[i]?=some (eX k.pg k.key):=by
 rw[bP,jW,h];rfl
theorem Nv.frame : ∀ {l:Nat} {lo:Ky} {hi:Option Ky} {cs:List (List Nat)} {es:List En} {ps:List Nat},Nv F P l lo hi cs es ps→(∀m∈ps,P' m=P m)→Nv F P' l lo hi cs es ps:=by
 intro l
 induction l with
 |zero=>intro lo hi cs es ps h _;exact h
 |succ l ih =>
  intro lo hi cs es ps ⟨ks,h1,h2,h3,h4,h5⟩ hp
  subst h4
  refine⟨ks,h1,h2,h3,rfl,fun i k hk => ?_⟩
  obtain⟨cs',a1,a2,a3⟩:=h5 i k hk
  have hm:=aM hk
  have hq:∀m∈k.pg::k.ps,P' m=P m:=fun m I=>hp m (List.mem_flatMap.2 ⟨k,hm,I⟩)
  exact⟨cs',ih a1 fun m I=>hq m (bA _ I),a2,by rw[hq k.pg bB];exact a3⟩
theorem Bd.trans {fQ:Ky}{eT:Option Ky}{k:Ky}(h:Bd lo hi k)(I:fQ≤lo)(h2:∀b,eT=some b→∃a,hi=some a∧a≤b): Bd fQ eT k :=
 ⟨List.le_trans I h.1,fun b hb=>by obtain⟨a,ha,l7⟩:=h2 b hb;have:=h.2 a ha;grind⟩
theorem Sep.lo_le (h:Sep lo hi ks)(I:i<ks.length): lo≤loK lo ks i:=by
 unfold loK
 split
 ·exact nD _
 ·have hk:ks[i]?=some ks[i]:=aG I
  rw[hk]
  exact pP (h.bd i _ hk (by omega)).1
theorem Sep.PY (h:Sep lo hi ks): ∀b,hi=some b→∃a,cZ hi ks i=some a∧a≤b:=by
 intro b I
 unfold cZ
 cases hk:ks[i+1]? with
 |none=>exact⟨b,I,nD _⟩
 |some k=>exact⟨k.key,rfl,pP ((h.bd (i+1) k hk (by omega)).2 b I)⟩
theorem Ss {R:β→β→Prop}{f:α→List β}: ∀ {l:List α},(∀x∈l,(f x).Pairwise R)→(∀(i j:Nat) (x y:α),l[i]?=some x→l[j]?=some y→i<j→∀a∈f x,∀b∈f y,R a b)→(l.flatMap f).Pairwise R:=by
 intro l
 induction l with
 |nil=>intro _ _;exact List.Pairwise.nil
 |cons x l ih =>
  intro h1 h2
  rw[gi,yb]
  refine⟨h1 x bB,ih (fun y I=>h1 y (bA _ I)) (fun i j y z I hz qm=>h2 (i+1) (j+1) y z (by simpa using I) (by simpa using hz) (by omega)),fun a ha b hb => ?_⟩
  obtain⟨y,I,hb⟩:=List.mem_flatMap.1 hb
  obtain⟨j,hj⟩:=List.mem_iff_getElem?.1 I
  exact h2 0 (j+1) x y rfl (by simpa using hj) (by omega) a ha b hb
theorem Nv.ok : ∀ {l:Nat} {lo:Ky} {hi:Option Ky} {cs:List (List Nat)} {es:List En} {ps:List Nat},Nv F P l lo hi cs es ps→jc lo hi es:=by
 intro l
 induction l with
 |zero=>intro lo hi cs es ps h;exact h.2.1
 |succ l ih =>
  intro lo hi cs es ps ⟨ks,h1,h2,h3,h4,h5⟩
  have hE:∀i k,ks[i]?=some k→jc (loK lo ks i) (cZ hi ks i) k.es:=fun i k hk=>by
   obtain⟨cs',a1,_,_⟩:=h5 i k hk
   exact ih a1
  subst h3
  refine⟨fun e he => ?_,fun e he => ?_,?_⟩
  ·obtain⟨k,hk,he⟩:=List.mem_flatMap.1 he
   obtain⟨i,I⟩:=List.mem_iff_getElem?.1 hk
   exact((hE i k I).bd e he).trans (h2.lo_le (List.getElem?_eq_some_iff.1 I).1) h2.PY
  ·obtain⟨k,hk,he⟩:=List.mem_flatMap.1 he
   obtain⟨i,I⟩:=List.mem_iff_getElem?.1 hk
   exact(hE i k I).sz e he
  ·refine Ss (fun k hk => ?_) fun i j x y hx hy qm a ha b hb => ?_
   ·obtain⟨i,I⟩:=List.mem_iff_getElem?.1 hk
    exact(hE i k I).kK
   ·have h6:=(hE i x hx).bd a ha
    have h7:=(hE j y hy).bd b hb
    have hj:=(List.getElem?_eq_some_iff.1 hy).1
    have dy:ks[i+1]?=some ks[i+1]:=aG (by omega)
    have e1:cZ hi ks i=some ks[i+1].key:=by rw[cZ,dy]
    have e2:loK lo ks j=y.key:=by rw[loK,ai (by omega),hy]
    have h8:=h6.2 _ e1
    have h9:=h7.1
    rw[e2] at h9
    by_cases hq:i+1=j
    ·subst hq
     rw[dy] at hy
     obtain rfl:=bW hy
     grind
    ·have:=h2.kK (i+1) j _ _ dy hy (by omega) (by omega)
     grind
structure sF where
 pg:Nat
 ks:List gG
 i:Nat
def gH (F:Nat→List (List Nat)→Prop)(P:Int→List Nat)(L r:Nat): List sF→Nat→Ky→Option Ky→Nat→List En→List En→List Nat→Prop
 |[],l,lo,hi,n,eL,eR,pO=>l=L∧lo=[]∧hi=none∧n=r∧eL=[]∧eR=[]∧pO=[]
 |f::fs,l,lo,hi,n,eL,eR,pO=>∃fQ eT I jd iM k,gH F P L r fs (l+1) fQ eT f.pg I jd iM∧f.ks[f.i]?=some k∧k.pg=n∧lo=loK fQ f.ks f.i∧hi=cZ eT f.ks f.i∧bH (P f.pg) 204 0 (l+1) (bP f.ks)∧Sep fQ eT f.ks∧(fs≠[]→F (l+1) (bP f.ks)) ∧
   (∀j k,f.ks[j]?=some k→j≠f.i→∃cs',Nv F P l (loK fQ f.ks j) (cZ eT f.ks j) cs' k.es k.ps∧F l cs'∧bH (P k.pg) 204 0 l cs') ∧
   eL=I++(f.ks.take f.i).flatMap (·.es)∧eR=(f.ks.drop (f.i+1)).flatMap (·.es)++jd∧pO=f.pg::(iM++(f.ks.eraseIdx f.i).flatMap ej)
theorem K_ {l:List α}{x:α}(h:l[i]?=some x): l.set i x=l:=by
 apply ny
 intro j
 rw[vl]
 grind
theorem qQ {g:α→List β}{l:List α}{x:α}(hi:i<l.length): (l.set i x).flatMap g=(l.take i).flatMap g++g x++(l.drop (i+1)).flatMap g:=by
 rw[CJ,ay hi,pL,gi,dA]
theorem sG {g:α→List β}{l:List α}{x:α}(h:l[i]?=some x): l.flatMap g=(l.take i).flatMap g++g x++(l.drop (i+1)).flatMap g:=by
 obtain⟨I,h2⟩:=List.getElem?_eq_some_iff.1 h
 have:=qQ (g:=g) (x:=x) I
 rwa [K_ h] at this
theorem vg {g:α→List β}{l:List α}: (l.eraseIdx i).flatMap g=(l.take i).flatMap g++(l.drop (i+1)).flatMap g:=by
 rw[nj,pL]
theorem EF {k:gG}(h:ks[i]?=some k)(I:k1.pg=k.pg)(h2:k1.key=k.key): bP (ks.set i k1)=bP ks:=by
 rw[bP,CY,I,h2]
 exact K_ (jB h)
theorem yV {k:gG}(h:ks[i]?=some k)(I:k1.key=k.key): loK lo (ks.set i k1) j=loK lo ks j:=by
 unfold loK
 rw[vl]
 grind
theorem vK {k:gG}(h:ks[i]?=some k)(I:k1.key=k.key): cZ hi (ks.set i k1) j=cZ hi ks j:=by
 unfold cZ
 rw[vl]
 grind
theorem Sep.set {k:gG}(h:Sep lo hi ks)(hk:ks[i]?=some k)(h1:k1.pg=k.pg)(h2:k1.key=k.key): Sep lo hi (ks.set i k1):=by
 have key:∀(j:Nat) (m:gG),(ks.set i k1)[j]?=some m→∃m',ks[j]?=some m'∧m'.key=m.key∧m'.pg=m.pg:=fun j m hm=>by
  rw[vl] at hm
  grind
 refine⟨fun e=>h.ne (ic (by have:=dn List.length e;simpa using this)),fun m hm => ?_,fun m hm => ?_,fun j m hm hj => ?_,fun j m hm hj => ?_,fun j j2 m m2 hm sN a1 a2 => ?_⟩
 ·obtain⟨j,hj⟩:=List.mem_iff_getElem?.1 hm
  obtain⟨m',I,e2,e3⟩:=key j m hj
  rw[←e3];exact h.pg m' (aM I)
 ·obtain⟨j,hj⟩:=List.mem_iff_getElem?.1 hm
  obtain⟨m',I,e2,e3⟩:=key j m hj
  rw[←e2];exact h.len m' (aM I)
 ·obtain⟨m',I,e2,e3⟩:=key j m hm
  rw[←e2];exact h.sz j m' I hj
 ·obtain⟨m',I,e2,e3⟩:=key j m hm
  rw[←e2];exact h.bd j m' I hj
 ·obtain⟨m',I,e2,e3⟩:=key j m hm
  obtain⟨m3,e4,e5,e6⟩:=key j2 m2 sN
  rw[←e2,←e5];exact h.kK j j2 m' m3 I e4 a1 a2
theorem Nv.hole {k:gG}(I:ks[i]?=some k)(h1:k1.pg=k.pg)(h2:k1.key=k.key)(hs:Sep lo hi ks)(hb:∀j k,ks[j]?=some k→j≠i→∃cs',Nv F P l (loK lo ks j) (cZ hi ks j) cs' k.es k.ps∧F l cs'∧bH (P k.pg) 204 0 l cs')(hN:Nv F P l (loK lo ks i) (cZ hi ks i) cs' k1.es k1.ps)(hF:F l cs')(hp:bH (P k.pg) 204 0 l cs'):
  Nv F P (l+1) lo hi (bP ks) ((ks.take i).flatMap (·.es)++k1.es++(ks.drop (i+1)).flatMap (·.es)) ((ks.take i).flatMap ej++ej k1++(ks.drop (i+1)).flatMap ej):=by
 have eT:=(List.getElem?_eq_some_iff.1 I).1
 refine⟨ks.set i k1,(EF I h1 h2).symm,hs.set I h1 h2,(qQ eT).symm,(qQ eT).symm,fun j m hm => ?_⟩
 rw[yV I h2,vK I h2]
 by_cases hj:j=i
 ·subst hj
  rw[jF eT] at hm
  obtain rfl:=bW hm
  exact⟨cs',hN,hF,by rw[h1];exact hp⟩
 ·rw[lG (jH hj)] at hm
  exact hb j m hm hj
theorem gH.frame : ∀ {fs:List sF} {l:Nat} {lo:Ky} {hi:Option Ky} {n:Nat} {eL eR:List En} {pO:List Nat},gH F P L r fs l lo hi n eL eR pO→(∀m∈pO,P' m=P m)→gH F P' L r fs l lo hi n eL eR pO:=by
 intro fs
 induction fs with
 |nil=>intro l lo hi n eL eR pO h _;exact h
 |cons f fs ih =>
  rintro l lo hi n eL eR pO ⟨fQ,eT,I,jd,iM,k,h1,h2,h3,h4,h5,h6,h7,N4,h8,h9,uG,rfl⟩ hp
  refine⟨fQ,eT,I,jd,iM,k,ih h1 (fun m hm=>hp m (bA _ (gI _ hm))),h2,h3,h4,h5,by rw[hp _ bB];exact h6,h7,N4,fun j m hm hj => ?_,h9,uG,rfl⟩
  obtain⟨cs',a1,a2,a3⟩:=h8 j m hm hj
  have hq:∀x∈ej m,P' x=P x:=fun x hx=>hp x (bA _ (lF _ (List.mem_flatMap.2 ⟨m,by
   rw[List.mem_eraseIdx_iff_getElem?];exact⟨j,hj,hm⟩,hx⟩)))
  exact⟨cs',a1.frame fun x hx=>hq x (bA _ hx),a2,by rw[hq m.pg bB];exact a3⟩
theorem gH.down {fs:List sF}(h:gH F P L r fs (l+1) lo hi n eL eR pO)(hs:Sep lo hi ks)(I:fs≠[]→F (l+1) (bP ks))(hp:bH (P n) 204 0 (l+1) (bP ks))
 (hb:∀i k,ks[i]?=some k→∃cs',Nv F P l (loK lo ks i) (cZ hi ks i) cs' k.es k.ps∧F l cs'∧bH (P k.pg) 204 0 l cs'){k:gG}(hk:ks[i]?=some k):
  gH F P L r (⟨n,ks,i⟩::fs) l (loK lo ks i) (cZ hi ks i) k.pg (eL++(ks.take i).flatMap (·.es)) ((ks.drop (i+1)).flatMap (·.es)++eR) (n::(pO++(ks.eraseIdx i).flatMap ej)) :=
 ⟨lo,hi,eL,eR,pO,k,h,hk,rfl,rfl,rfl,hp,hs,I,fun j m hm _=>hb j m hm,rfl,rfl,rfl⟩
theorem gH.rt : ∀ {fs:List sF} {l:Nat} {lo:Ky} {hi:Option Ky} {n:Nat} {eL eR:List En} {pO:List Nat},gH F P L r fs l lo hi n eL eR pO→(fs=[]∧l=L∧n=r)∨(fs≠[]∧r∈pO):=by
 intro fs
 induction fs with
 |nil=>rintro l lo hi n eL eR pO ⟨rfl,rfl,rfl,rfl,rfl,rfl,rfl⟩;exact .inl ⟨rfl,rfl,rfl⟩
 |cons f fs I =>
  rintro l lo hi n eL eR pO ⟨fQ,eT,m9,jd,iM,k,h1,h2,rfl,rfl,rfl,h6,h7,N4,h8,rfl,rfl,rfl⟩
  refine .inr ⟨by simp,?_⟩
  rcases I h1 with⟨_,_,q⟩|⟨_,q⟩
  ·rw[q];exact bB
  ·exact bA _ (gI _ q)
theorem gH.PZ : ∀ {fs:List sF} {l:Nat} {lo:Ky} {hi:Option Ky} {n:Nat} {eL eR es:List En} {pO ps:List Nat} {cs:List (List Nat)},gH F P L r fs l lo hi n eL eR pO→Nv F P l lo hi cs es ps→bH (P n) 204 0 l cs→(fs≠[]→F l cs) →
  ∃I cs',Nv F P L [] none cs' (eL++es++eR) I∧bH (P r) 204 0 L cs'∧(r::I).Perm (pO++n::ps)∧(fs=[]→cs'=cs):=by
 intro fs
 induction fs with
 |nil =>
  rintro l lo hi n eL eR es pO ps cs ⟨rfl,rfl,rfl,rfl,rfl,rfl,rfl⟩ hN hp _
  exact⟨ps,cs,by simpa using hN,hp,List.Perm.refl _,fun _=>rfl⟩
 |cons f fs ih =>
  rintro l lo hi n eL eR es pO ps cs ⟨fQ,eT,m9,jd,iM,k,h1,h2,rfl,rfl,rfl,h6,h7,N4,h8,rfl,rfl,rfl⟩ hN hp hF
  have Gi:=Nv.hole (k1:=⟨k.key,k.pg,es,ps⟩) h2 rfl rfl h7 h8 hN (hF (by simp)) hp
  obtain⟨I,cs',a1,a2,a3,_⟩:=ih h1 Gi h6 N4
  refine⟨I,cs',by simpa[dA] using a1,a2,a3.trans ?_,fun q=>by cases q⟩
  rw[vg]
  rw[lH]
  intro x
  simp only[ej,lJ,lK,fF]
  omega
end
variable {fs:List sF}
def gp (l:Nat)(c:List Nat): Ky:=if l=0 then(c.drop 1).take (c.getD 0 0) else c.drop 4
def rgtC (l:Nat)(cs:List (List Nat)): List (List Nat):=if l=0 then cs else match cs with|[]=>[]|c::t=>c.take 4::t
theorem DC {e:En}: gp 0 (ey e)=e.1:=by
 simp[gp,ey]
theorem HT {l n:Nat}{k:Ky}: gp (l+1) (eX n k)=k:=by
 have:=cJ 4 n
 rw[gp,ai (by omega),eX,vq this]
section
variable {P:Int→List Nat} {l n:Nat} {lo:Ky}
theorem Su : bP (ks.take k)=(bP ks).take k:=ri ..
def rgtK : List gG→List gG
 |[]=>[]
 |k::t=>⟨[],k.pg,k.es,k.ps⟩::t
theorem Vh : bP (rgtK ks)=rgtC (l+1) (bP ks):=by
 cases ks with
 |nil=>rfl
 |cons y u =>
  have:=cJ 4 y.pg
  show eX y.pg []::_=(eX y.pg y.key).take 4::_
  rw[eX,eX,gq this,fe]
theorem I0 {g:gG→List α}(I:∀k:gG,g ⟨[],k.pg,k.es,k.ps⟩=g k): (rgtK ks).flatMap g=ks.flatMap g:=by
 cases ks with
 |nil=>rfl
 |cons y u=>simp only[rgtK,gi,I]
theorem Vi {x:gG}(h:(rgtK ks)[i]?=some x): ∃y,ks[i]?=some y∧x.pg=y.pg∧x.es=y.es∧x.ps=y.ps∧(1≤i→x=y)∧(i=0→x.key=[]):=by
 cases ks with
 |nil=>simp[rgtK] at h
 |cons y u =>
  cases i with
  |zero=>simp[rgtK] at h;subst h;exact⟨y,rfl,rfl,rfl,rfl,fun h=>by omega,fun _=>rfl⟩
  |succ i=>exact⟨x,by simpa[rgtK] using h,rfl,rfl,rfl,fun _=>rfl,fun h=>by omega⟩
theorem Vj : (rgtK ks).length=ks.length:=by cases ks<;>rfl
theorem Nv.cut (h:Nv F P l lo hi cs es ps)(h1:1≤k)(hc:cs[k]?=some c): ∃jA fP nR nT,es=jA++fP∧ps=nR++nT∧Nv F P l lo (some (gp l c)) (cs.take k) jA nR∧Nv F P l (gp l c) hi (rgtC l (cs.drop k)) fP nT ∧
  lo<gp l c∧(∀b,hi=some b→gp l c<b)∧1≤(gp l c).length∧(gp l c).length≤96:=by
 have hk:=(List.getElem?_eq_some_iff.1 hc).1
 cases l with
 |zero =>
  obtain⟨rfl,h2,rfl⟩:=h
  rw[bX] at hk
  obtain⟨e,he⟩:∃e,es[k]?=some e:=⟨_,aG hk⟩
  rw[jW,he] at hc
  obtain rfl:=bW hc
  rw[DC]
  have hem:=aM he
  have gm:es=es.take k++es.drop k:=(jG k es).symm
  have yW:=h2.kK
  rw[gm,yb] at yW
  have hed:e∈es.drop k:=by
   rw[CM]
   exact⟨0,by rw[fb];simpa using he⟩
  have hle:∀x∈es.drop k,e.1≤x.1:=fun x I=>by
   obtain⟨j,hj⟩:=List.mem_iff_getElem?.1 I
   rw[fb] at hj
   by_cases q:j=0
   ·subst q
    rw[eS,he] at hj
    obtain rfl:=bW hj
    exact nD _
   ·have:=List.pairwise_iff_getElem.1 h2.kK k (k+j) (by omega) (List.getElem?_eq_some_iff.1 hj).1 (by omega)
    rw[(List.getElem?_eq_some_iff.1 hj).2,(List.getElem?_eq_some_iff.1 he).2] at this
    exact pP this
  have h0:∃x,x∈es.take k:=⟨es[0]'(by omega),by
   rw[CM]
   exact⟨0,by rw[ig,ay (by omega)];exact aG _⟩⟩
  refine⟨es.take k,es.drop k,[],[],gm,rfl,⟨(ri ..).symm,⟨fun x I=>⟨(h2.bd x (iV I)).1,fun b hb => ?_⟩,fun x I=>h2.sz x (iV I),yW.1⟩,rfl⟩,⟨(sW ..).symm,⟨fun x I=>⟨hle x I,(h2.bd x (jh I)).2⟩,fun x I=>h2.sz x (jh I),yW.2.1⟩,rfl⟩,?_,(h2.bd e hem).2,(h2.sz e hem).1,(h2.sz e hem).2.1⟩
  ·obtain rfl:=bW hb
   exact yW.2.2 x I e hed
  ·obtain⟨x,I⟩:=h0
   have:=yW.2.2 x I e hed
   have:=(h2.bd x (iV I)).1
   grind
 |succ l =>
  obtain⟨ks,rfl,h2,rfl,rfl,h5⟩:=h
  rw[eC] at hk
  obtain⟨m,hm⟩:∃m,ks[k]?=some m:=⟨_,aG hk⟩
  have AP:=jB hm
  rw[AP] at hc
  obtain rfl:=bW hc
  rw[HT]
  have gm:ks=ks.take k++ks.drop k:=(jG k ks).symm
  have hT:∀j,j<k→(ks.take k)[j]?=ks[j]?:=fun j hj=>by rw[ig,ay hj]
  have Sv:∀ {j x},(ks.take k)[j]?=some x→j<k∧ks[j]?=some x:=fun {j x} I=>by
   have hj:=(List.getElem?_eq_some_iff.1 I).1
   rw[cH] at hj
   exact⟨by omega,by rwa [hT j (by omega)] at I⟩
  have hD:∀ {j x},(rgtK (ks.drop k))[j]?=some x→∃y,ks[k+j]?=some y∧x.pg=y.pg∧x.es=y.es∧x.ps=y.ps∧(1≤j→x=y)∧(j=0→x.key=[]):=fun {j x} I=>by
   obtain⟨y,e1,e2⟩:=Vi I
   rw[fb] at e1
   exact⟨y,e1,e2⟩
  have AV:(rgtK (ks.drop k)).length=ks.length-k:=by rw[Vj,fc]
  refine⟨(ks.take k).flatMap (·.es),(ks.drop k).flatMap (·.es),(ks.take k).flatMap ej,(ks.drop k).flatMap ej,by rw[←pL,←gm],by rw[←pL,←gm],
   ⟨ks.take k,Su.symm,⟨?_,fun x I=>h2.pg x (iV I),fun x I=>h2.len x (iV I),fun i x I dy=>h2.sz i x (Sv I).2 dy,fun i x I dy => ?_,fun i j x y I hy a1 a2=>h2.kK i j x y (Sv I).2 (Sv hy).2 a1 a2⟩,rfl,rfl,fun i x I => ?_⟩,
   ⟨rgtK (ks.drop k),by rw[Vh,bP,bP,sW],⟨?_,fun x I => ?_,fun x I => ?_,fun i x I dy => ?_,fun i x I dy => ?_,fun i j x y I hy a1 a2 => ?_⟩,(I0 fun _=>rfl).symm,(I0 fun _=>rfl).symm,fun i x I => ?_⟩,
   (h2.bd k m hm h1).1,(h2.bd k m hm h1).2,h2.sz k m hm h1,h2.len m (aM hm)⟩
  ·intro e
   have:=dn List.length e
   rw[cH,cj] at this
   omega
  ·obtain⟨hj,I⟩:=Sv I
   refine⟨(h2.bd i x I dy).1,fun b hb => ?_⟩
   obtain rfl:=bW hb
   exact h2.kK i k x m I hm dy (by omega)
  ·obtain⟨hj,I⟩:=Sv I
   have e1:loK lo (ks.take k) i=loK lo ks i:=by unfold loK;rw[hT i (by omega)]
   have e2:cZ (some m.key) (ks.take k) i=cZ hi ks i:=by
    unfold cZ
    by_cases q:i+1<k
    ·rw[hT (i+1) q]
     have:ks[i+1]?=some ks[i+1]:=aG (by omega)
     rw[this]
    ·have:i+1=k:=by omega
     rw[this,hm,nm (by rw[cH];omega)]
   rw[e1,e2]
   exact h5 i x I
  ·intro e
   have:=dn List.length e
   rw[AV,cj] at this
   omega
  ·obtain⟨j,hj⟩:=List.mem_iff_getElem?.1 I
   obtain⟨y,e1,e2,_⟩:=hD hj
   rw[e2];exact h2.pg y (aM e1)
  ·obtain⟨j,hj⟩:=List.mem_iff_getElem?.1 I
   obtain⟨y,e1,_,_,_,e2,e3⟩:=hD hj
   rcases pM j with q|q
   ·rw[e3 q];exact gu _
   ·rw[e2 q];exact h2.len y (aM e1)
  ·obtain⟨y,e1,_,_,_,e2,_⟩:=hD I
   rw[e2 dy]
   exact h2.sz (k+i) y e1 (by omega)
  ·obtain⟨y,e1,_,_,_,e2,_⟩:=hD I
   rw[e2 dy]
   exact⟨h2.kK k (k+i) m y hm e1 h1 (by omega),(h2.bd (k+i) y e1 (by omega)).2⟩
  ·obtain⟨z,e1,_,_,_,e2,_⟩:=hD I
   obtain⟨z2,e3,_,_,_,e4,_⟩:=hD hy
   rw[e2 a1,e4 (by omega)]
   exact h2.kK (k+i) (k+j) z z2 e1 e3 (by omega) (by omega)
  ·obtain⟨y,e1,p1,p2,p3,p4,_⟩:=hD I
   have e3:loK m.key (rgtK (ks.drop k)) i=loK lo ks (k+i):=by
    unfold loK
    rw[ai (show ¬k+i=0 by omega)]
    by_cases q:i=0
    ·subst q
     rw[ay rfl,eS,hm]
    ·rw[ai q,I,e1,p4 (by omega)]
   have e4:cZ hi (rgtK (ks.drop k)) i=cZ hi ks (k+i):=by
    unfold cZ
    cases hq:(rgtK (ks.drop k))[i+1]? with
    |none =>
     rw[MY,AV] at hq
     rw[nm (by omega)]
    |some w =>
     obtain⟨y2,e5,_,_,_,e6,_⟩:=hD hq
     rw[show k+i+1=k+(i+1) by omega,e5,e6 (by omega)]
   rw[e3,e4,p1,p2,p3]
   exact h5 (k+i) y e1
theorem Nv.aaT {k:gG}(q7:Sep lo hi ks)(q2:ks[i]?=some k)(q8:∀j k,ks[j]?=some k→j≠i→∃cs',Nv F P l (loK lo ks j) (cZ hi ks j) cs' k.es k.ps∧F l cs'∧bH (P k.pg) 204 0 l cs'){cut:Ky}
 (h1:Nv F P l (loK lo ks i) (some cut) wq jA nR)(g1:F l wq)(p1:bH (P k.pg) 204 0 l wq)(h2:Nv F P l cut (cZ hi ks i) qw fP nT)(g2:F l qw)(p2:bH (P n2) 204 0 l qw)(c1:loK lo ks i<cut)(c2:∀b,cZ hi ks i=some b→cut<b)(c3:1≤cut.length∧cut.length≤96)(sA:n2<4294967296):
  Nv F P (l+1) lo hi (cW (i+1) (eX n2 cut) (bP ks)) ((ks.take i).flatMap (·.es)++(jA++fP)++(ks.drop (i+1)).flatMap (·.es)) ((ks.take i).flatMap ej++(k.pg::nR++n2::nT)++(ks.drop (i+1)).flatMap ej):=by
 have dy:=(List.getElem?_eq_some_iff.1 q2).1
 obtain⟨k1,lS⟩:∃k1:gG,k1=⟨k.key,k.pg,jA,nR⟩:=⟨_,rfl⟩
 obtain⟨k2,mK⟩:∃k2:gG,k2=⟨cut,n2,fP,nT⟩:=⟨_,rfl⟩
 have e1:k1.pg=k.pg:=by rw[lS]
 have e2:k1.key=k.key:=by rw[lS]
 have hS:=q7.set q2 e1 e2
 have hlen:(ks.set i k1).length=ks.length:=cI
 have sS:bP (cW (i+1) k2 (ks.set i k1))=cW (i+1) (eX n2 cut) (bP ks):=by
  rw[←EF q2 e1 e2,mK]
  simp only[bP,cW,qY,ik,ri,sW]
 have nH:∀j x,(cW (i+1) k2 (ks.set i k1))[j]?=some x→(j≤i∧(ks.set i k1)[j]?=some x)∨(j=i+1∧x=k2)∨(i+1<j∧(ks.set i k1)[j-1]?=some x):=fun j x hx=>by
  rw[mX (by omega)] at hx
  by_cases c1:j<i+1
  ·rw[ay c1] at hx;exact .inl ⟨by omega,hx⟩
  ·rw[ai c1] at hx
   by_cases c2:j=i+1
   ·rw[ay c2] at hx;exact .inr (.inl ⟨c2,(bW hx).symm⟩)
   ·rw[ai c2] at hx;exact .inr (.inr ⟨by omega,hx⟩)
 have Q4:(ks.set i k1)[i]?=some k1:=jF dy
 have PW:lo<cut:=by have:=q7.lo_le dy;grind
 have adv:∀b,hi=some b→cut<b:=fun b hb=>by obtain⟨a,ha,l7⟩:=q7.PY (i:=i) b hb;have:=c2 a ha;grind
 have nV:k2.key=cut:=by rw[mK]
 have aaU:∀j x,1≤j→j≤i→(ks.set i k1)[j]?=some x→x.key<cut:=fun j x a1 a2 hx=>by
  have I:loK lo ks i=k.key:=by rw[loK,ai (by omega),q2]
  rw[I] at c1
  by_cases q:j=i
  ·subst q
   rw[Q4] at hx
   obtain rfl:=bW hx
   rw[e2];exact c1
  ·have:=hS.kK j i x k1 hx Q4 a1 (by omega)
   rw[e2] at this
   grind
 have aaV:∀j x,i+1≤j→(ks.set i k1)[j]?=some x→cut<x.key:=fun j x a1 hx=>by
  rw[lG (by omega)] at hx
  have hj:=(List.getElem?_eq_some_iff.1 hx).1
  have hn:ks[i+1]?=some (ks[i+1]'(by omega)):=aG _
  have I:cZ hi ks i=some (ks[i+1]'(by omega)).key:=by rw[cZ,hn]
  have h4:=c2 _ I
  by_cases q:j=i+1
  ·subst q
   rw[hn] at hx
   obtain rfl:=bW hx
   exact h4
  ·have:=q7.kK (i+1) j _ x hn hx (by omega) (by omega)
   grind
 have hg1:ej k1=k.pg::nR:=by rw[lS];rfl
 have FM:ej k2=n2::nT:=by rw[mK];rfl
 rw[←hg1,←FM]
 refine⟨cW (i+1) k2 (ks.set i k1),sS.symm,⟨?_,fun x hx => ?_,fun x hx => ?_,fun j x hx hj => ?_,fun j x hx hj => ?_,fun j j2 x y hx hy a1 a2 => ?_⟩,?_,?_,fun j x hx => ?_⟩
 ·intro e
  have:=dn List.length e
  rw[kS (by omega)] at this
  simp at this
 ·obtain⟨j,hj⟩:=List.mem_iff_getElem?.1 hx
  rcases nH j x hj with⟨_,I⟩|⟨_,rfl⟩|⟨_,I⟩
  ·exact hS.pg x (aM I)
  ·rw[mK];exact sA
  ·exact hS.pg x (aM I)
 ·obtain⟨j,hj⟩:=List.mem_iff_getElem?.1 hx
  rcases nH j x hj with⟨_,I⟩|⟨_,rfl⟩|⟨_,I⟩
  ·exact hS.len x (aM I)
  ·rw[nV];exact c3.2
  ·exact hS.len x (aM I)
 ·rcases nH j x hx with⟨_,I⟩|⟨_,rfl⟩|⟨_,I⟩
  ·exact hS.sz j x I hj
  ·rw[nV];exact c3.1
  ·exact hS.sz (j-1) x I (by omega)
 ·rcases nH j x hx with⟨_,I⟩|⟨_,rfl⟩|⟨_,I⟩
  ·exact hS.bd j x I hj
  ·rw[nV];exact⟨PW,adv⟩
  ·exact hS.bd (j-1) x I (by omega)
 ·rcases nH j x hx with⟨b1,I⟩|⟨b1,rfl⟩|⟨b1,I⟩
  ·rcases nH j2 y hy with⟨b2,h4⟩|⟨b2,rfl⟩|⟨b2,h4⟩
   ·exact hS.kK j j2 x y I h4 a1 a2
   ·rw[nV];exact aaU j x a1 b1 I
   ·exact hS.kK j (j2-1) x y I h4 a1 (by omega)
  ·rcases nH j2 y hy with⟨b2,h4⟩|⟨b2,rfl⟩|⟨b2,h4⟩
   ·omega
   ·omega
   ·rw[nV];exact aaV (j2-1) y (by omega) h4
  ·rcases nH j2 y hy with⟨b2,h4⟩|⟨b2,rfl⟩|⟨b2,h4⟩
   ·omega
   ·omega
   ·exact hS.kK (j-1) (j2-1) x y I h4 (by omega) (by omega)
 ·show _=(cW (i+1) k2 (ks.set i k1)).flatMap (·.es)
  rw[cW,pL,gi,List.take_set,List.drop_set,ay (by omega),qQ (by rw[cH];omega),q_,lM,lS,mK]
  simp[show min i (i+1)=i by omega,dA]
 ·show _=(cW (i+1) k2 (ks.set i k1)).flatMap ej
  rw[cW,pL,gi,List.take_set,List.drop_set,ay (by omega),qQ (by rw[cH];omega),q_,lM]
  simp[show min i (i+1)=i by omega,dA]
 ·rcases nH j x hx with⟨b1,I⟩|⟨b1,rfl⟩|⟨b1,I⟩
  ·have e3:loK lo (cW (i+1) k2 (ks.set i k1)) j=loK lo ks j:=by
    rw[←yV q2 e2]
    unfold loK
    rw[hx,I]
   rw[e3]
   by_cases q:j=i
   ·subst q
    rw[Q4] at I
    obtain rfl:=bW I
    have e4:cZ hi (cW (j+1) k2 (ks.set j k1)) j=some cut:=by
     unfold cZ
     rw[mX (by omega),ai (by omega),ay rfl]
     exact dn some nV
    rw[e4,lS]
    exact⟨wq,h1,g1,p1⟩
   ·have e4:cZ hi (cW (i+1) k2 (ks.set i k1)) j=cZ hi ks j:=by
     rw[←vK q2 e2]
     unfold cZ
     rw[mX (by omega),ay (by omega)]
    rw[e4]
    rw[lG (jH q)] at I
    exact q8 j x I q
  ·subst b1
   have e3:loK lo (cW (i+1) x (ks.set i k1)) (i+1)=cut:=by
    unfold loK
    rw[ai (by omega),hx]
    exact nV
   have e4:cZ hi (cW (i+1) x (ks.set i k1)) (i+1)=cZ hi ks i:=by
    rw[←vK q2 e2]
    unfold cZ
    rw[mX (by omega),ai (by omega),ai (by omega)]
    rfl
   rw[e3,e4,mK]
   exact⟨qw,h2,g2,p2⟩
  ·have e3:loK lo (cW (i+1) k2 (ks.set i k1)) j=loK lo ks (j-1):=by
    rw[←yV q2 e2]
    unfold loK
    rw[hx,I,ai (by omega),ai (by omega)]
   have e4:cZ hi (cW (i+1) k2 (ks.set i k1)) j=cZ hi ks (j-1):=by
    rw[←vK q2 e2]
    unfold cZ
    rw[mX (by omega),ai (by omega),ai (by omega),show j+1-1=j-1+1 by omega]
   rw[e3,e4]
   rw[lG (by omega)] at I
   exact q8 (j-1) x I (by omega)
theorem gH.two {f:sF}(h:gH F P L r (f::fs) l lo hi n eL eR pO){cut:Ky}
 (h1:Nv F P l lo (some cut) wq jA nR)(g1:F l wq)(p1:bH (P n) 204 0 l wq)(h2:Nv F P l cut hi qw fP nT)(g2:F l qw)(p2:bH (P n2) 204 0 l qw)(c1:lo<cut)(c2:∀b,hi=some b→cut<b)(c3:1≤cut.length∧cut.length≤96)(sA:n2<4294967296):
  ∃fQ eT I jd iM Xh m_,gH F P L r fs (l+1) fQ eT f.pg I jd iM∧Nv F P (l+1) fQ eT (cW (f.i+1) (eX n2 cut) (bP f.ks)) Xh m_∧I++Xh++jd=eL++(jA++fP)++eR ∧
   (iM++f.pg::m_).Perm (pO++n::n2::(nR++nT))∧bH (P f.pg) 204 0 (l+1) (bP f.ks)∧f.i<f.ks.length:=by
 obtain⟨fQ,eT,I,jd,iM,k,q1,q2,rfl,rfl,rfl,q6,q7,_,q8,rfl,rfl,rfl⟩:=h
 refine⟨fQ,eT,I,jd,iM,_,_,q1,Nv.aaT q7 q2 q8 h1 g1 p1 h2 g2 p2 c1 c2 c3 sA,by simp[dA],?_,q6,(List.getElem?_eq_some_iff.1 q2).1⟩
 rw[vg,lH]
 intro x
 simp only[lJ,lK,fF]
 omega
end
def cB (cs:List (List Nat)): Nat:=tot cs+4*cs.length
theorem Av (h:cs[i]?=some c): cB (cs.take (i+1))=cB (cs.take i)+c.length+4:=by
 have I:=iP h
 have h2:=(List.getElem?_eq_some_iff.1 h).1
 simp only[cB,cH]
 omega
theorem um : cB (cs.take k)+cB (cs.drop k)=cB cs:=by
 have I:=tC (a:=cs.take k) (b:=cs.drop k)
 have h2:=dn List.length (jG k cs)
 rw[aX] at h2
 rw[jG] at I
 simp only[cB]
 omega
structure lZ (cs:List (List Nat))(least k:Nat): Prop where
 k1:1≤k
 k2:k<cs.length
 l1:least≤k
 l2:least+k≤cs.length
 s1:cB (cs.take k)≤486
 s2:cB (cs.drop k)≤486
theorem Sw (hM:∀c∈cs,c.length+4≤M)(h1:1≤a)(ha:a≤cB cs): ∃k,k≤cs.length∧a≤cB (cs.take k)∧cB (cs.take k)<a+M∧1≤k:=by
 have main:∀n,n≤cs.length→a≤cB (cs.take n)→∃k,k≤n∧a≤cB (cs.take k)∧cB (cs.take k)<a+M∧1≤k:=by
  intro n
  induction n with
  |zero=>intro _ h;rw[qZ] at h;simp[cB,tot] at h;omega
  |succ n ih =>
   intro hn h
   by_cases q:a≤cB (cs.take n)
   ·obtain⟨k,k1,k2⟩:=ih (by omega) q
    exact⟨k,by omega,k2⟩
   ·have I:cs[n]?=some (cs[n]'(by omega)):=aG _
    have h2:=Av I
    have h3:=hM _ (aM I)
    exact⟨n+1,aI _,h,by omega,by omega⟩
 obtain⟨k,k1,k2⟩:=main cs.length (aI _) (by rw[mo];exact ha)
 exact⟨k,k1,k2⟩
theorem Ck (I:∀c∈cs,c.length+4≤M): cB cs≤cs.length*M:=by
 induction cs with
 |nil=>simp[cB,tot]
 |cons c cs ih =>
  have h1:=ih fun x hx=>I x (bA _ hx)
  have h2:=I c bB
  simp only[cB,tot,bq] at h1 ⊢
  rw[rj,C0]
  omega
theorem Vk (hM:∀c∈cs,c.length+4≤229)(h1:486<cB cs)(h2:cB cs≤715): ∃k,lZ cs 1 k:=by
 obtain⟨k,k1,k2,k3,I⟩:=Sw hM (a:=229) (by decide) (by omega)
 have hs:=um (cs:=cs) (k:=k)
 have hk:k<cs.length:=by
  rcases sX k cs.length with q|q
  ·exact q
  ·rw[gT q] at k3;omega
 exact⟨k,I,hk,I,by omega,by omega,by omega⟩
theorem La (I:∀c∈cs,c.length+4≤104)(h1:486<cB cs)(h2:cB cs≤695): ∃k,lZ cs 2 k:=by
 obtain⟨k,k1,k2,k3,k4⟩:=Sw I (a:=209) (by decide) (by omega)
 have hs:=um (cs:=cs) (k:=k)
 have ht:=Ck (cs:=cs.take k) (M:=104) fun x hx=>I x (iV hx)
 have hd:=Ck (cs:=cs.drop k) (M:=104) fun x hx=>I x (jh hx)
 rw[cH] at ht
 rw[fc] at hd
 exact⟨k,by omega,by omega,by omega,by omega,by omega,by omega⟩
structure A6 (es:List En)(k:Ky)(i:Nat): Prop where
 le:i≤es.length
 lo:∀j e,es[j]?=some e→j<i→e.1<k
 hi:∀j e,es[j]?=some e→i≤j→k≤e.1
def Aw (es:List En)(i:Nat)(same:Bool)(e:En): List En:=cond same (es.set i e) (cW i e es)
def sameE (es:List En)(k:Ky)(i:Nat): Bool:=match es[i]? with|some e=>decide (e.1=k)|none=>false
section
variable {lo:Ky} {k v:Ky}
theorem Lb {c x:α}{l:List α}: x∈cW i c l↔x=c∨x∈l:=by
 have:=jG i l
 have I:x∈l↔x∈l.take i∨x∈l.drop i:=by rw[←nB,this]
 rw[I,cW,nB,gj]
 constructor
 ·rintro(q|q|q)
  ·exact .inr (.inl q)
  ·exact .inl q
  ·exact .inr (.inr q)
 ·rintro(q|q|q)
  ·exact .inr (.inl q)
  ·exact .inl q
  ·exact .inr (.inr q)
theorem jc.put (h:jc lo hi es)(hl:A6 es k i)(hb:Bd lo hi k)(h1:1≤k.length)(h2:k.length≤96)(h3:v.length≤128): jc lo hi (Aw es i (sameE es k i) (k,v)):=by
 cases hs:sameE es k i with
 |true =>
  show jc lo hi (es.set i (k,v))
  obtain⟨e,he,xp⟩:∃e,es[i]?=some e∧e.1=k:=by
   unfold sameE at hs
   split at hs
   ·rename_i e he;exact⟨e,he,pN hs⟩
   ·cases hs
  have dy:=(List.getElem?_eq_some_iff.1 he).1
  refine⟨fun x I => ?_,fun x I => ?_,?_⟩
  ·rcases mj I with q|rfl
   ·exact h.bd x q
   ·exact hb
  ·rcases mj I with q|rfl
   ·exact h.sz x q
   ·exact⟨h1,h2,h3⟩
  ·rw[List.pairwise_iff_getElem]
   intro a b ha qa l7
   have hs:=List.pairwise_iff_getElem.1 h.kK a b (by simpa using ha) (by simpa using qa) l7
   have e0:=(List.getElem?_eq_some_iff.1 he).2
   rw[List.getElem_set,List.getElem_set]
   split
   ·rename_i q;subst q
    rw[ai (by omega)]
    rw[e0,xp] at hs
    exact hs
   ·split
    ·rename_i _ q;subst q
     rw[e0,xp] at hs
     exact hs
    ·exact hs
 |false =>
  show jc lo hi (cW i (k,v) es)
  have eZ:∀e,es[i]?=some e→e.1≠k:=fun e he q=>by
   unfold sameE at hs
   rw[he] at hs
   simp[q] at hs
  refine⟨fun x I => ?_,fun x I => ?_,?_⟩
  ·rcases Lb.1 I with rfl|q
   ·exact hb
   ·exact h.bd x q
  ·rcases Lb.1 I with rfl|q
   ·exact⟨h1,h2,h3⟩
   ·exact h.sz x q
  ·have yW:=h.kK
   rw[←jG i es,yb] at yW
   rw[cW,yb]
   have cq:∀x∈es.take i,x.1<k:=fun x I=>by
    obtain⟨j,hj⟩:=List.mem_iff_getElem?.1 I
    have kg:=(List.getElem?_eq_some_iff.1 hj).1
    rw[cH] at kg
    rw[ig,ay (by omega)] at hj
    exact hl.lo j x hj (by omega)
   have hgt:∀x∈es.drop i,k<x.1:=fun x I=>by
    obtain⟨j,hj⟩:=List.mem_iff_getElem?.1 I
    rw[fb] at hj
    have h4:=hl.hi (i+j) x hj (by omega)
    by_cases q:j=0
    ·subst q
     have:=eZ x hj
     grind
    ·have dy:=(List.getElem?_eq_some_iff.1 hj).1
     have h5:=List.pairwise_iff_getElem.1 h.kK i (i+j) (by omega) dy (by omega)
     rw[(List.getElem?_eq_some_iff.1 hj).2] at h5
     have h6:=hl.hi i _ (aG (by omega)) (aI _)
     grind
   refine⟨yW.1,List.pairwise_cons.2 ⟨fun x I=>hgt x I,yW.2.1⟩,fun x I y hy => ?_⟩
   rcases List.mem_cons.1 hy with rfl|hy
   ·exact cq x I
   ·exact yW.2.2 x I y hy
def qR (l:List En)(k v:Ky): List En:=l.filter (fun e=>decide (e.1<k))++(k,v)::l.filter (fun e=>decide (k<e.1))
theorem filter_none {p:α→Bool}{l:List α}(h:∀x∈l,p x=false): l.filter p=[]:=by
 rw[List.filter_eq_nil_iff]
 intro x I
 rw[h x I];decide
theorem filter_all {p:α→Bool}{l:List α}(h:∀x∈l,p x=true): l.filter p=l:=List.filter_eq_self.2 h
theorem Vl (hs:(eL++es++eR).Pairwise fun a b=>a.1<b.1)(hl:A6 es k i)(hL:∀e∈eL,e.1<k)(hR:∀e∈eR,k<e.1): qR (eL++es++eR) k v=eL++Aw es i (sameE es k i) (k,v)++eR:=by
 have gm:=jG i es
 have hT:∀x∈es.take i,x.1<k:=fun x I=>by
  obtain⟨j,hj⟩:=List.mem_iff_getElem?.1 I
  have kg:=(List.getElem?_eq_some_iff.1 hj).1
  rw[cH] at kg
  rw[ig,ay (by omega)] at hj
  exact hl.lo j x hj (by omega)
 have hD:∀x∈es.drop i,k≤x.1:=fun x I=>by
  obtain⟨j,hj⟩:=List.mem_iff_getElem?.1 I
  rw[fb] at hj
  exact hl.hi (i+j) x hj (by omega)
 have a1:eL.filter (fun e=>decide (e.1<k))=eL:=filter_all fun x I=>decide_eq_true (hL x I)
 have a2:eL.filter (fun e=>decide (k<e.1))=[]:=filter_none fun x I=>decide_eq_false (by have:=hL x I;grind)
 have a3:eR.filter (fun e=>decide (e.1<k))=[]:=filter_none fun x I=>decide_eq_false (by have:=hR x I;grind)
 have a4:eR.filter (fun e=>decide (k<e.1))=eR:=filter_all fun x I=>decide_eq_true (hR x I)
 have a5:es.filter (fun e=>decide (e.1<k))=es.take i:=by
  conv=>lhs;rw[←gm]
  rw[lI,filter_all fun x I=>decide_eq_true (hT x I),filter_none fun x I=>decide_eq_false (by have:=hD x I;grind),fe]
 have yW:es.Pairwise fun a b=>a.1<b.1:=(List.pairwise_append.1 (List.pairwise_append.1 hs).1).2.1
 unfold qR
 rw[lI,lI,lI,lI,a1,a2,a3,a4,a5,fe,dG]
 cases hq:sameE es k i with
 |true =>
  obtain⟨e,he,xp⟩:∃e,es[i]?=some e∧e.1=k:=by
   unfold sameE at hq
   split at hq
   ·rename_i e he;exact⟨e,he,pN hq⟩
   ·cases hq
  have dy:=(List.getElem?_eq_some_iff.1 he).1
  have N5:es.drop i=e::es.drop (i+1):=by
   rw[pH dy,(List.getElem?_eq_some_iff.1 he).2]
  have a6:es.filter (fun e=>decide (k<e.1))=es.drop (i+1):=by
   conv=>lhs;rw[←gm,N5]
   rw[lI,List.filter_cons,filter_none fun x I=>decide_eq_false (by have:=hT x I;grind),ai (by simp[xp]),dG]
   refine filter_all fun x I=>decide_eq_true ?_
   have h2:(e::es.drop (i+1)).Pairwise fun a b=>a.1<b.1:=by rw[←N5];exact yW.sublist (List.drop_sublist _ _)
   have:=(List.pairwise_cons.1 h2).1 x I
   rw[xp] at this;exact this
  rw[a6]
  show _=eL++es.set i (k,v)++eR
  rw[CJ,ay dy]
  simp[dA]
 |false =>
  have eZ:∀e,es[i]?=some e→e.1≠k:=fun e he q=>by
   unfold sameE at hq
   rw[he] at hq
   simp[q] at hq
  have a6:es.filter (fun e=>decide (k<e.1))=es.drop i:=by
   conv=>lhs;rw[←gm]
   rw[lI,filter_none fun x I=>decide_eq_false (by have:=hT x I;grind),dG]
   refine filter_all fun x I=>decide_eq_true ?_
   have h4:=hD x I
   obtain⟨j,hj⟩:=List.mem_iff_getElem?.1 I
   rw[fb] at hj
   by_cases q:j=0
   ·subst q
    have:=eZ x hj
    grind
   ·have dy:=(List.getElem?_eq_some_iff.1 hj).1
    have h5:=List.pairwise_iff_getElem.1 yW i (i+j) (by omega) dy (by omega)
    rw[(List.getElem?_eq_some_iff.1 hj).2] at h5
    have h6:=hl.hi i _ (aG (by omega)) (aI _)
    grind
  rw[a6]
  show _=eL++cW i (k,v) es++eR
  simp[cW,dA]
end
section
variable {P:Int→List Nat}
theorem gH.bd : ∀ {fs:List sF} {l:Nat} {lo:Ky} {hi:Option Ky} {n:Nat} {eL eR:List En} {pO:List Nat},gH F P L r fs l lo hi n eL eR pO→(∀e∈eL,e.1<lo)∧∀e∈eR,∃b,hi=some b∧b≤e.1:=by
 intro fs
 induction fs with
 |nil=>rintro l lo hi n eL eR pO ⟨_,_,_,_,rfl,rfl,_⟩;exact⟨fun e he=>(by cases he),fun e he=>(by cases he)⟩
 |cons f fs ih =>
  rintro l lo hi n eL eR pO ⟨fQ,eT,m9,jd,iM,k,h1,h2,rfl,rfl,rfl,h6,h7,_,h8,rfl,rfl,rfl⟩
  obtain⟨i1,i2⟩:=ih h1
  have dy:=(List.getElem?_eq_some_iff.1 h2).1
  refine⟨fun e he => ?_,fun e he => ?_⟩
  ·rcases List.mem_append.1 he with he|he
   ·have:=i1 e he;have:=h7.lo_le dy;grind
   ·obtain⟨x,hx,he⟩:=List.mem_flatMap.1 he
    obtain⟨j,I⟩:=List.mem_iff_getElem?.1 hx
    have kg:=(List.getElem?_eq_some_iff.1 I).1
    rw[cH] at kg
    rw[ig,ay (by omega)] at I
    obtain⟨cs',a1,_,_⟩:=h8 j x I (by omega)
    have hb:=(a1.ok.bd e he).2
    have hn:f.ks[j+1]?=some (f.ks[j+1]'(by omega)):=aG _
    have h9:=hb (f.ks[j+1]'(by omega)).key (by rw[cZ,hn])
    have e1:loK fQ f.ks f.i=k.key:=by rw[loK,ai (by omega),h2]
    rw[e1]
    by_cases q:j+1=f.i
    ·have uG:f.ks[j+1]?=some k:=by rw[q];exact h2
     rw[hn] at uG
     rw[←bW uG]
     exact h9
    ·have:=h7.kK (j+1) f.i _ k hn h2 (by omega) (by omega)
     grind
  ·rcases List.mem_append.1 he with he|he
   ·obtain⟨x,hx,he⟩:=List.mem_flatMap.1 he
    obtain⟨j,I⟩:=List.mem_iff_getElem?.1 hx
    rw[fb] at I
    obtain⟨cs',a1,_,_⟩:=h8 (f.i+1+j) x I (by omega)
    have hb:=(a1.ok.bd e he).1
    rw[loK,ai (by omega),I] at hb
    have IL:=(List.getElem?_eq_some_iff.1 I).1
    have hn:f.ks[f.i+1]?=some (f.ks[f.i+1]'(by omega)):=aG _
    refine⟨(f.ks[f.i+1]'(by omega)).key,by rw[cZ,hn],?_⟩
    by_cases q:j=0
    ·subst q
     rw[eS,hn] at I
     obtain rfl:=bW I
     exact hb
    ·have:=h7.kK (f.i+1) (f.i+1+j) _ x hn I (by omega) (by omega)
     grind
   ·obtain⟨b,hb,Q9⟩:=i2 e he
    obtain⟨a,ha,l7⟩:=h7.PY (i:=f.i) b hb
    exact⟨a,ha,by grind⟩
end
theorem I1 : ∀ {l m:List Nat},l.Nodup→(∀x∈l,x∈m)→l.length≤m.length:=by
 intro l
 induction l with
 |nil=>intro m _ _;exact gu _
 |cons x l ih =>
  intro m hn hs
  obtain⟨h1,h2⟩:=List.nodup_cons.1 hn
  have I:=hs x bB
  have:=ih (m:=m.erase x) h2 fun y hy=>(List.mem_erase_of_ne (fun e=>h1 (by rw[←e];exact hy))).2 (hs y (bA _ hy))
  rw[List.length_erase_of_mem I] at this
  have:=List.length_pos_of_mem I
  rw[bq];omega
def cS (Z:List Nat)(l:Nat)(cs:List (List Nat)): Prop:=if l=0 then cs≠[] else 2≤cs.length∨∃p∈Z,∃k,p<4294967296∧cs=[eX p k]
def oJ (Z ps:List Nat): Nat:=ps.countP (Z.contains ·)
section
variable {Z:List Nat} {P:Int→List Nat}
theorem Lc {g:α→Nat}{f:α→List Nat}: ∀ {ks:List α},(∀k∈ks,(f k).length+z≤g k)→(ks.flatMap f).length+z*ks.length≤(ks.map g).sum:=by
 intro ks
 induction ks with
 |nil=>intro _;simp
 |cons k ks I =>
  intro h
  have h1:=h k bB
  have h2:=I fun x hx=>h x (bA _ hx)
  rw[gi,aX,ik,yp,bq,Nat.mul_add,dV]
  omega
theorem Sx : (ks.map fun k=>2*k.es.length+oJ Z (ej k)).sum=2*(ks.flatMap (·.es)).length+oJ Z (ks.flatMap ej):=by
 induction ks with
 |nil=>rfl
 |cons k ks I=>rw[ik,yp,gi,gi,aX,I,oJ,oJ,oJ,List.countP_append];omega
theorem Nv.count : ∀ {l:Nat} {lo:Ky} {hi:Option Ky} {cs:List (List Nat)} {es:List En} {ps:List Nat},Nv (cS Z) P l lo hi cs es ps→cS Z l cs→ps.length+2≤2*es.length+oJ Z ps∧1≤es.length∧(Z=[]→2^l≤es.length):=by
 intro l
 induction l with
 |zero =>
  rintro lo hi cs es ps ⟨rfl,h2,rfl⟩ h
  have h:es.map ey≠[]:=h
  have:1≤es.length:=by
   cases es with
   |nil=>exact absurd rfl h
   |cons x t=>simp
  exact⟨by rw[cj];omega,this,fun _=>this⟩
 |succ l ih =>
  rintro lo hi cs es ps ⟨ks,rfl,h2,rfl,rfl,h5⟩ h
  rw[cS,ai (by omega),eC] at h
  have I:∀k∈ks,k.ps.length+2≤2*k.es.length+oJ Z k.ps∧1≤k.es.length∧(Z=[]→2^l≤k.es.length):=fun k hm=>by
   obtain⟨i,hi⟩:=List.mem_iff_getElem?.1 hm
   obtain⟨cs',a1,a2,_⟩:=h5 i k hi
   exact ih a1 a2
  rcases h with h|⟨p,hp,key,adw,h⟩
  ·have h1:=Lc (g:=fun k=>2*k.es.length+oJ Z (ej k)) (f:=ej) (z:=1) (ks:=ks) fun k hm=>by
    have:=(I k hm).1
    rw[ej,bq,oJ,G1]
    rw[oJ] at this
    omega
   rw[Sx] at h1
   match ks,h,I,h1 with
   |k1::k2::t,_,I,h1 =>
    have a1:=I k1 (by simp)
    have a2:=I k2 (by simp)
    refine⟨?_,?_,fun hz => ?_⟩
    ·simp only[bq] at h1;omega
    ·simp only[gi,aX];omega
    ·have b1:=a1.2.2 hz
     have b2:=a2.2.2 hz
     simp only[gi,aX];rw[Nat.pow_succ];omega
  ·have hl:=dn List.length h
   rw[eC] at hl
   match ks,hl with
   |[k],_ =>
    have fO:k.pg=p:=by
     have h:[eX k.pg k.key]=[eX p key]:=h
     have h6:=dn (List.take 4) (List.cons.inj h).1
     rw[eX,eX,gq (cJ 4 _),gq (cJ 4 _)] at h6
     have h7:=dn leN h6
     rwa [Cg,Cg,vm (by have:=h2.pg k (by simp);simpa using this),vm (by simpa using adw)] at h7
    have a1:=I k (by simp)
    have hc:Z.contains k.pg=true:=by rw[fO];simpa using hp
    refine⟨?_,?_,fun hz=>by rw[hz] at hp;cases hp⟩
    ·simp only[gi,yl,fe,ej,bq,oJ,G1]
     rw[ay hc]
     have:=a1.1
     rw[oJ] at this
     omega
    ·simp only[gi,yl,fe];omega
theorem Y0 (h:ps.Nodup): oJ Z ps≤Z.length:=by
 rw[oJ,List.countP_eq_length_filter]
 refine I1 (h.sublist List.filter_sublist) fun x I => ?_
 simpa using(List.mem_filter.1 I).2
theorem Nv.bG {lo:Ky}(h:Nv (cS Z) P L lo hi cs es ps)(hn:ps.Nodup): ps.length≤2*es.length+Z.length∧(Z=[]→1≤L→2^(L-1)≤es.length)∧(1≤L→1≤es.length):=by
 have hz:=Y0 (Z:=Z) hn
 cases L with
 |zero =>
  obtain⟨rfl,h2,rfl⟩:=h
  exact⟨gu _,fun _ h=>by omega,fun h=>by omega⟩
 |succ l =>
  obtain⟨ks,rfl,h2,rfl,rfl,h5⟩:=h
  have I:∀k∈ks,k.ps.length+2≤2*k.es.length+oJ Z k.ps∧1≤k.es.length∧(Z=[]→2^l≤k.es.length):=fun k hm=>by
   obtain⟨i,hi⟩:=List.mem_iff_getElem?.1 hm
   obtain⟨cs',a1,a2,_⟩:=h5 i k hi
   exact a1.count a2
  have h1:=Lc (g:=fun k=>2*k.es.length+oJ Z (ej k)) (f:=ej) (z:=1) (ks:=ks) fun k hm=>by
   have:=(I k hm).1
   rw[ej,bq,oJ,G1]
   rw[oJ] at this
   omega
  rw[Sx] at h1
  match ks,h2.ne,I,h1,hz with
  |k1::t,_,I,h1,hz =>
   have a1:=I k1 (by simp)
   refine⟨by omega,fun e _ => ?_,fun _ => ?_⟩
   ·have:=a1.2.2 e
    simp only[gi,aX,Nat.add_sub_cancel];omega
   ·simp only[gi,aX];omega
end
section
variable {v:V} {m:List Nat}
theorem HU {n b:Nat}(s:Sat h (aU (.sl id 0 n cap) l::S))(hn:n=l.length)(l7:a<b)(hb:b≤l.length): ∃I,slR (.sl id 0 n cap) a b=.sl id a (b-a) I:=by
 cases cap with
 |exact c =>
  refine⟨.exact (c-a),?_⟩
  simp only[slR]
  by_cases WY:c=a
  ·obtain⟨m',r,h1,h2,h3⟩:=s.at (k:=0) rfl
   rcases h3.2 with⟨e,_⟩|⟨wI,cs',c',e,hg,RB⟩|⟨wI,e,_⟩
   ·cases e
   ·grind
   ·grind
  grind[fH]
 |rest e alt=>simp[slR]
theorem Ld {c:Nat}{rest:List V}(s:Sat h (pt id (.cells c (ofBytes l++rest) false)::S))(hc:l.length+rest.length=c)(hm:a+m.length≤l.length)(h1:1≤m.length):
  wrN h id a (ofBytes m)=some (h.put id (some (.cells c (ofBytes (az l a m)++rest) false))):=by
 simp only[wrN,s.row (k:=0) rfl,dx]
 rw[aW.2 (by omega),ah]
 have e0:(ofBytes l++rest).take a++(ofBytes m++(ofBytes l++rest).drop (a+m.length))=ofBytes (az l a m)++rest:=by
  grind[dx,vZ,BT,az,tJ]
 cases I:(Nat.beq a 0&&Nat.beq m.length c)<;>grind[beq_iff,List.drop_eq_nil_of_le,dx]
theorem Sy (s:Sat h (aU v l::S)){b n:Nat}(ha:a+n≤l.length)(hb:b+n≤l.length)(h1:1≤n):
  ∃h',copyV Tryz.prog h 29 (slR v a (a+n)) (slR v b (b+n))=some (.int .i64 (n:Nat),h')∧Sat h' (aU v (az l a ((l.drop b).take n))::S):=by
 have hv:=(s.buf (k:=0) rfl).1
 obtain⟨id,c,cap,rest,rfl,s1,hc,hf⟩:=s.eG (by omega)
 obtain⟨ae2,e1⟩:=HU (a:=a) (b:=a+n) s rfl (by omega) ha
 obtain⟨HE,e2⟩:=HU (a:=b) (b:=b+n) s rfl (by omega) hb
 have hvw:=(s.buf (k:=0) rfl).view
 rw[e1,e2,sV,sV]
 have hz:((l.drop b).take n).length=n:=by rw[cH,fc];omega
 have hg:=s1.row (k:=0) rfl
 have ju:rdN h id b (Nat.min n n*1)=some (ofBytes ((l.drop b).take n)):=by
  rw[dV,show Nat.min n n=n from Nat.min_self n]
  have I:=(fE hvw (a:=b) (b:=b+n) (by omega) hb).2.1
  rw[e2,sV,lM,sV] at I
  exact I.rdN.2
 simp only[copyV,aK,fB,ju]
 rw[Ld s1 hc (by rw[hz];omega) (by rw[hz];omega)]
 refine⟨_,by rw[show Nat.min n n=n from Nat.min_self n],hf _ _ (bD (by rw[hz];omega)) (wV hv (fun x hx=>hv x (jh (iV hx)))) ?_⟩
 exact s1.put (k:=0) rfl
theorem Sz (s:Sat h (aU v l::S)){b:Nat}(l7:a<b)(hb:b≤l.length):
  ∃h',clearV Tryz.prog h 29 (slR v a b)=some h'∧Sat h' (aU v (az l a (List.replicate (b-a) 0))::S):=by
 have hv:=(s.buf (k:=0) rfl).1
 obtain⟨id,c,cap,rest,rfl,s1,hc,hf⟩:=s.eG (by omega)
 obtain⟨I,e1⟩:=HU (a:=a) (b:=b) s rfl (by omega) hb
 rw[e1]
 have e2:repeatL [V.int .u8 0] (b-a)=ofBytes (List.replicate (b-a) 0):=Nw _
 refine⟨_,?_,hf _ (az l a (List.replicate (b-a) 0)) (bD (by rw[gd];omega)) (wV hv (fun x hx=>by rw[xY hx];decide)) (s1.put (k:=0) rfl)⟩
 simp only[clearV,aK,sZ,V.cells,bq,cj]
 rw[aW.2 (by omega:1≤b-a),show(Nat.ble 1 (0+1)&&true)=true from rfl,ah,e2,Ld s1 hc (by rw[gd];omega) (by rw[gd];omega)]
end
section
variable {o:Oper} {v:V} {m:List Nat}
theorem OpR.Xi {b a2 b2 n:Nat}(hP:C.P=Tryz.prog)(s:Sat h (aU v l::S))(I:o.op=.call cl)(hc:cl.callee=.builtin .copy)(yG:cl.argTypes = #[29,29])(hx:lookArgs E cl.args.toList=some [slR v a a2,slR v b b2])
 (ea:a2=a+n)(eb:b2=b+n)(ha:a+n≤l.length)(hb:b+n≤l.length)(hl:1≤l.length): OpR C E h o fun _ h₁=>Sat h₁ (aU v (az l a ((l.drop b).take n))::S):=by
 subst ea eb
 by_cases h1:1≤n
 ·obtain⟨h₁,e1,e2⟩:=Sy s ha hb h1
  refine OpR.builtin I hc hx ⟨.int .i64 (n:Nat),h₁,?_,e2⟩
  simp only[builtinV,hP,yG,e1]
 ·have hn:n=0:=by omega
  subst hn
  obtain⟨h₁,e1,e2⟩:=IW (a:=a) (b:=b) s ha hb hl
  refine OpR.builtin I hc hx ⟨.int .i64 0,h₁,?_,?_⟩
  ·simp only[builtinV,hP,yG,eS,e1]
  ·rw[qZ,az,cj,eS,dG,jG];exact e2
theorem OpR.SB {b:Nat}(hP:C.P=Tryz.prog)(s:Sat h (aU v l::S))(I:o.op=.call cl)(hc:cl.callee=.builtin .clear)(yG:cl.argTypes = #[29])(hx:lookArgs E cl.args.toList=some [slR v a b])
 (l7:a<b)(hb:b≤l.length): OpR C E h o fun _ h₁=>Sat h₁ (aU v (az l a (List.replicate (b-a) 0))::S):=by
 obtain⟨h₁,e1,e2⟩:=Sz s l7 hb
 refine OpR.builtin I hc hx ⟨.aT [],h₁,?_,e2⟩
 simp only[builtinV,hP,yG,e1,gJ]
end
section
variable {told:cE} {v:V}
theorem Le (hT:W told)(s:Sat h S)(hk:getA S k=some X)(hX:cf X (cy v b))(hp:bH b kd link extra cs)(hc:cs[i]?=some c):
  Call ⟨Tryz.prog,told⟩ 187 [.agg [v],.int .i64 (i:Int)] h fun r h'=>∃f,r=slR3 v f (f+c.length) (f+c.length)∧cf X (cy r c)∧Sat h' S:=by
 have hv:=s.aC hk hX
 have hl:=hp.len
 have hi:=(List.getElem?_eq_some_iff.1 hc).1
 have oH:=hp.low
 obtain⟨s0,s1,s2,s3⟩:=hp.slot i c hc
 have I:=hp.cell hc
 generalize hf:bw b i=f at s0 s1 s3 I
 obtain⟨pi,po,pc,rfl⟩:=iE hv (by omega)
 refine Call.of_wp (hT.free _ rfl) Tryz.func187 rfl rfl (zg rfl ?_)
 refine au.b_ s rfl rfl rfl (eU rfl rfl) (fun p2 h s => ?_)
 refine zk 4 rfl (zl rfl (s.b7 (k:=0) rfl bx aS) (zm rfl (zc rfl (tj hT s (kI hk) hX hl (by omega)) ?_)))
 rintro r h' ⟨rfl,s⟩
 rw[hf,s2]
 refine zk 8 rfl (zY s 0 dW bF rfl (zk 3 rfl (zb rfl (by exact aQ (aq (by omega) (by omega))) ?_)))
 refine zk 2 rfl (zb rfl (by exact aQ (aq (by omega) (by omega))) ?_)
 have e1:(f:Int)+(c.length:Int)=((f+c.length:Nat):Int):=by omega
 have ja:=tL (s.aC (kI hk) hX) (a:=f) (b:=f+c.length) (c:=f+c.length) (by omega) (aI _) (by omega) (by omega)
 rw[e1]
 refine zo rfl (bO (p:=some (.int .i64 (f:Int))) (q:=some (.int .i64 ((f+c.length:Nat):Int))) (m:=some (.int .i64 ((f+c.length:Nat):Int))) (p':=some f) (q':=some (f+c.length)) (m':=some (f+c.length)) rfl rfl rfl rfl (by rw[bT (by omega)];rfl) (by rw[bT (by omega)];rfl) (by rw[bT (by omega)];rfl) ja) ?_
 refine zk 2 rfl (WP.ret ⟨aa,_,rfl,?_⟩)
 refine⟨f,rfl,?_,s.drop⟩
 have:=BV hX (a:=f) (b:=f+c.length) (c:=f+c.length) (by omega) (aI _) (by omega) (by omega)
 rw[lM,show f+c.length-f=c.length by omega,I] at this
 exact this
theorem Lf (I:W told)(s:Sat h S)(hk:getA S k=some X)(hX:cf X (cy v b))(hp:bH b kd link extra cs):
  Call ⟨Tryz.prog,told⟩ 125 [.agg [v]] h fun r h'=>r=.int .i64 ((c9 b:Int)-(26+4*(cs.length:Int)))∧Sat h' S:=by
 have hv:=s.aC hk hX
 have hl:=hp.len
 have oH:=hp.low
 obtain⟨pi,po,pc,rfl⟩:=iE hv (by omega)
 refine Call.of_wp (I.free _ rfl) Tryz.func125 rfl rfl (zg rfl ?_)
 refine au.b_ s rfl rfl rfl (eU rfl rfl) (fun p1 h s => ?_)
 refine zk 3 rfl ?_
 have s0:=s
 refine WP.drawn [none,none,some (1,2),some (0,2),af,af,af,af] rfl (by kernel_rfl) (by kernel_rfl) ?_
 refine zL rfl (s.b7 (k:=0) rfl bx aS) (aB.any rfl rfl rfl rfl (OpR.call rfl rfl rfl rfl (B2 I s (kI hk) hX hl)) ?_)
 rintro r h' ⟨rfl,s⟩
 have s1:=s
 refine zO rfl (ak rfl rfl (by exact ew (aq (by omega) (by omega)))) ?_
 refine zL rfl (s.b7 (k:=0) rfl bx aS) (aB.any rfl rfl rfl rfl (OpR.call rfl rfl rfl rfl (f_ I s (kI hk) hX hl)) ?_)
 rintro r h' ⟨rfl,s⟩
 rw[hp.fZ]
 refine zO rfl (ak rfl rfl (by exact jx (aq (by omega) (by omega)))) ?_
 refine zO rfl (ak rfl rfl (by exact ew (aq (by omega) (by omega)))) ?_
 refine zA rfl ?_
 refine aB.nil ⟨⟨aa,aa,fun _ _=>.inr ⟨rfl,⟨_,ak rfl rfl (by exact ew (aq (by omega) (by omega)))⟩,bg _ rfl⟩,fV (.inr ⟨rfl,⟨_,o_load rfl (s0.b7 (k:=0) rfl bx aS)⟩,bg _ rfl⟩) (.inr ⟨rfl,⟨_,o_load rfl (s1.b7 (k:=0) rfl bx aS)⟩,bg _ rfl⟩),aa,aa,aa,aa,aa⟩,?_⟩
 refine WP.ret ⟨aa,_,rfl,?_⟩
 exact⟨dn (V.int .i64) (by omega),s.drop⟩
theorem MO (hT:W told)(hX:cf X (cy x b))(Iu:x.cells=[x])(hp:bH b kd link extra cs): ∀(m i:Nat) (h:H) (E:List (Nat×V)) (Q:Ex→List (Nat×V)→H→Prop),i+m=cs.length →
  Sat h (pt p1 (.cells 1 [x] false)::X::S)→Has E [(1,.ptr p1 0),(3,.int .i64 (486-(4*(cs.length:Int)+(tot (cs.take i):Int)))),(12,.int .i64 (cs.length:Int)),(13,.int .i64 (i:Int))] →
  (∀E' h',Has E' [(3,.int .i64 (486-(4*(cs.length:Int)+(tot cs:Int))))]→Sat h' (pt p1 (.cells 1 [x] false)::X::S)→Q (.exit 0) E' h')→WP ⟨Tryz.prog,told⟩ 27 (.loop pfL) E h Q:=by
 have hl:=hp.len
 have cU:=hp.fits
 intro m
 induction m with
 |zero =>
  intro i h E Q hi s hE hq
  refine WP.loop (WP.has hE (zg rfl (zC rfl aO (by simp<;>omega) ?_)))
  refine zk 3 rfl (WP.exit ?_)
  refine hq _ _ ⟨?_,aa⟩ s
  rw[show cs.take i=cs from gT (by omega)]
  rfl
 |succ m ih =>
  intro i h E Q hi s hE hq
  have I:cs[i]?=some (cs[i]'(by omega)):=aG _
  generalize (cs[i]'(by omega))=c at I
  obtain⟨s0,s1,s2,s3⟩:=hp.slot i c I
  have IN:=kY (cs:=cs) (i:=i+1)
  have K6:=iP I
  refine WP.loop (WP.has hE (zg rfl (zB rfl aO (by simp<;>omega) ?_)))
  refine zk 5 rfl (WP.block (zK 7 rfl (zl rfl (s.b7 (k:=0) rfl bx aS) (zm rfl (zc rfl (tj hT (i:=i) s (k:=1) rfl hX hl (by omega)) ?_)))))
  rintro r h' ⟨rfl,s⟩
  rw[s2]
  refine zk 9 rfl (zb rfl (by exact ew (aq (by omega) (by omega))) ?_)
  refine za rfl (zv (zr rfl (zb rfl (by exact aQ (aq (by omega) (by omega))) ?_)))
  refine zm rfl (zv ?_)
  refine ih (i+1) _ _ Q (by omega) s ⟨rfl,?_,rfl,rfl,aa⟩ hq
  exact dn (fun z=>some (V.int .i64 z)) (by omega)
theorem I2 (hT:W told)(s:Sat h (X::S))(hX:cf X (cy v b))(I:bH b kd link extra cs):
  Call ⟨Tryz.prog,told⟩ 123 [.agg [v]] h fun r h'=>r=.int .i64 (486-(4*(cs.length:Int)+(tot cs:Int)))∧Sat h' (X::S):=by
 have hv:=s.aC (k:=0) rfl hX
 have hl:=I.len
 have cU:=I.fits
 obtain⟨pi,po,pc,rfl⟩:=iE hv (by omega)
 refine Call.of_wp (hT.free _ rfl) Tryz.func123 rfl rfl (zg rfl ?_)
 refine au.b_ s rfl rfl rfl (eU rfl rfl) (fun p1 h s => ?_)
 refine zk 4 rfl (zl rfl (s.b7 (k:=0) rfl bx aS) (zc rfl (f_ hT s (k:=1) rfl hX hl) ?_))
 rintro r h' ⟨rfl,s⟩
 rw[I.fZ]
 refine zb rfl (by exact jx (aq (by omega) (by omega))) ?_
 refine zb rfl (by exact ew (aq (by omega) (by omega))) ?_
 refine zk 5 rfl (zl rfl (s.b7 (k:=0) rfl bx aS) (zc rfl (f_ hT s (k:=1) rfl hX hl) ?_))
 rintro r h' ⟨rfl,s⟩
 rw[I.fZ]
 refine zk 2 rfl (WP.block ?_)
 refine MO hT hX rfl I cs.length 0 _ _ _ (by omega) s ⟨rfl,?_,rfl,rfl,aa⟩ (fun E' h' hE s' => ?_)
 ·exact dn (fun z=>some (V.int .i64 z)) (by have:tot (cs.take 0)=0:=rfl;omega)
 have s:=s'
 exact WP.has hE (zK 5 rfl (WP.ret ⟨aa,_,rfl,rfl,s.del 0⟩))
noncomputable def anL : Code:=eu [1,1,1,1,0,1,0,0] ((Tryz.f126.body).getD .skip)
theorem SC (hT:W told){p2:Nat}(hp:bH b0 kd link extra cs): ∀(m i lo:Nat) (b:List Nat) (h:H) (E:List (Nat×V)) (Q:Ex→List (Nat×V)→H→Prop),i+m=cs.length→lo+tot (cs.take i)=512→An b0 cs i b →
  Sat h (pt p1 (.cells 1 [v] false)::pt p2 (.cells 1 [w] false)::aU v b::aU w b0::S)→Has E [(1,.ptr p1 0),(2,.ptr p2 0),(3,.int .i64 (lo:Int)),(4,.int .i64 (cs.length:Int)),(13,.int .i64 (cs.length:Int)),(14,.int .i64 (i:Int))] →
  (∀E' h' lo b',lo+tot cs=512→An b0 cs cs.length b'→Has E' [(1,.ptr p1 0),(2,.ptr p2 0),(3,.int .i64 (lo:Int)),(4,.int .i64 (cs.length:Int))]→Sat h' (pt p1 (.cells 1 [v] false)::pt p2 (.cells 1 [w] false)::aU v b'::aU w b0::S)→Q (.exit 0) E' h')→WP ⟨Tryz.prog,told⟩ 48 (.loop anL) E h Q:=by
 have Ii:=hp.len
 have cU:=hp.fits
 intro m
 induction m with
 |zero =>
  intro i lo b h E Q hi js ha s hE hq
  have hi:i=cs.length:=hi
  subst hi
  rw[mo] at js
  refine WP.loop (WP.has hE (zg rfl (zC rfl aO (by simp) ?_)))
  exact zk 3 rfl (WP.exit (hq _ _ _ _ js ha ⟨rfl,rfl,rfl,rfl,aa⟩ s))
 |succ m ih =>
  intro i lo b h E Q hi js ha s hE hq
  have Xj:cs[i]?=some (cs[i]'(by omega)):=aG _
  generalize (cs[i]'(by omega))=c at Xj
  have hl:=ha.len
  have IN:=kY (cs:=cs) (i:=i+1)
  have K6:=iP Xj
  obtain⟨I,PW⟩:∃I,I+c.length=lo:=⟨lo-c.length,by omega⟩
  obtain⟨lD,_,cap,_,rfl,_⟩:=(s.ae [2]).eG (by omega)
  refine WP.loop (WP.has hE (zg rfl (zB rfl aO (by simp;omega) ?_)))
  refine zk 5 rfl (WP.block (zK 7 rfl (zl rfl (s.b7 (k:=1) rfl bx aS) (zm rfl (zc rfl (Le (i:=i) (c:=c) hT s (k:=3) rfl (aZ _ _) hp Xj) ?_)))))
  rintro r h' ⟨f,rfl,hr,s⟩
  refine zk 6 rfl (zo rfl (aD rfl rfl rfl (aY aK (s.aC (k:=3) rfl hr))) (zo rfl (ak (r:=.int .i64 (I:Int)) rfl rfl (by rw[show((I:Nat):Int)=(lo:Int)-(c.length:Int) by omega];exact ew (aq (by omega) (by omega)))) ?_))
  refine zk 4 rfl (zY s 0 dW bF rfl (zm rfl ?_))
  have ja:=hU (s.aC (k:=2) rfl (aZ _ _)) (a:=I) (by omega)
  refine zo rfl (bO (p:=some (.int .i64 (I:Int))) (q:=none) (m:=none) (p':=some I) (q':=none) (m':=none) rfl rfl rfl rfl (by rw[bT (by omega)];rfl) rfl rfl ja.1) ?_
  refine zm rfl (au.any rfl rfl rfl (OpR.JM rfl (s.ae [2,2]) hr rfl rfl rfl rfl (by omega) (aI _) (by omega)) ?_)
  intro r h s
  rw[gT (by omega)] at s
  have s:=s.ae [2,2,0,0]
  dsimp only[aL,bringA,getA] at s
  have l1:(az b I c).length=512:=by rw[bD (by omega),hl]
  refine zk 2 rfl (zl rfl (s.b7 (k:=0) rfl bx aS) (zk 3 rfl (zo rfl (aD rfl rfl rfl (aY aK (s.aC (k:=3) rfl hr))) (zc rfl (sE (i:=i) (f:=I) (z:=c.length) hT (s.ae [2]) l1 (by omega) (by omega) (by omega)) ?_))))
  rintro r h ⟨rfl,s⟩
  have s:=s.ae [1,1,0,0]
  dsimp only[aL,bringA,getA] at s
  refine zv (zr rfl (zb rfl (by exact aQ (aq (by omega) (by omega))) ?_))
  refine zm rfl (zv ?_)
  exact ih (i+1) I _ _ _ Q (by omega) (by omega) (ha.step cU Xj (by omega)) s ⟨rfl,rfl,rfl,rfl,rfl,rfl,aa⟩ hq
theorem N6 (I:W told)(s:Sat h (aU v b::S))(hp:bH b kd link extra cs)(hr:26+4*cs.length+tot cs<512):
  Call ⟨Tryz.prog,told⟩ 126 [.agg [v]] h fun r h'=>r=.aT []∧∃b',fA b' kd link extra cs∧Sat h' (aU v b'::S):=by
 have hl:=hp.len
 have hle:∀n,(le 2 n).length=2:=fun n=>cJ 2 n
 obtain⟨lD,_,cap,_,rfl,_⟩:=s.eG (by omega)
 refine Call.of_wp (I.free _ rfl) Tryz.func126 rfl rfl (zg rfl ?_)
 refine au.b_ s rfl rfl rfl (eU rfl rfl) (fun p1 h s => ?_)
 refine zk 3 rfl (zY s 0 dW bF rfl (au.any rfl rfl rfl (OpR.qh rfl ((s.ae [1]).t_) (aZ _ _) rfl rfl rfl rfl (by simp;omega)) ?_))
 intro w h s
 rw[dG] at s
 obtain⟨wid,_,Cb,_,rfl,_⟩:=s.eG (by omega)
 refine zo rfl (cQ rfl (by rw[Ab];rfl)) ?_
 refine au.b_ s rfl rfl rfl (cu jo) (fun p2 h s => ?_)
 refine zS rfl (s.gX (j:=0) rfl aS rfl rfl) ?_
 intro h s
 have s:=s.ae [3,0,1,0]
 refine zk 7 rfl (zl rfl (s.b7 (k:=0) rfl bx aS) (zc rfl (f_ I s (k:=2) rfl (aZ _ _) hl) ?_))
 rintro r h' ⟨rfl,s⟩
 rw[hp.fZ]
 refine zk 8 rfl (WP.block (SC I hp cs.length 0 512 _ _ _ _ (by omega) rfl (An.start hl) s ⟨rfl,rfl,rfl,rfl,rfl,rfl,aa⟩ fun E' h' lo b' js ha eN s' => ?_))
 have s:=s'
 have DW:=ha.len
 refine WP.has eN ?_
 have q1:((26:Int)+4*(cs.length:Int)).toNat=26+4*cs.length:=by omega
 refine zg rfl (zY s 0 dW bF rfl (zm rfl (zb rfl (by exact jx (aq (by omega) (by omega))) ?_)))
 refine zb rfl (by exact aQ (aq (by omega) (by omega))) ?_
 refine zm rfl (zo rfl (bO (p:=some (.int .i64 (26+4*(cs.length:Int)))) (q:=some (.int .i64 (lo:Int))) (m:=none) (p':=some (26+4*cs.length)) (q':=some lo) (m':=none) rfl rfl rfl rfl (by rw[bT (by omega),q1]) (by rw[bT (by omega)];rfl) rfl (fE (s.buf (k:=2) rfl).view (by omega) (by omega)).1) ?_)
 refine au.mg rfl rfl (OpR.SB rfl (s.ae [2]) rfl rfl rfl rfl (by omega) (by omega)) ?_
 intro r h s
 refine zk 2 rfl (zl rfl (s.b7 (k:=1) rfl bx aS) (zm rfl (zo rfl (cL rfl (by exact kJ cm eM (iD (by omega) (by omega)))) ?_)))
 have l1:(az b' (26+4*cs.length) (List.replicate (lo-(26+4*cs.length)) 0)).length=512:=by rw[bD (by rw[gd];omega),DW]
 refine zc rfl (nQ (a:=16) (z:=2) (n:=lo) I s (by decide) (by decide) (by omega) (by omega)) ?_
 rintro r h ⟨rfl,s⟩
 exact zv ⟨aa,_,rfl,rfl,_,ha.done hp js,(s.del 3 |>.del 2 |>.del 1)⟩
end
section
variable {told:cE} {v:V}
noncomputable def piT : Code:=eu [1,1,1,1] ((Tryz.f53.body).getD .skip)
theorem Gj (hT:W told)(hY:cf Y (cy x c))(hp:bH b kd link extra cs)(hi:i≤cs.length)(hf:26+4*(cs.length+1)+(tot cs+c.length)≤512)(hr:30+4*cs.length+c.length≤c9 b)(s:Sat h (pt p8 (.cells 1 [u] false)::aU u b::Y::S))(hE:Has E [(1,.int .i64 (i:Int)),(2,x),(8,.ptr p8 0)])
 (hq:∀E' h' b',look E' 6=some u→look E' 7=some (.int .i64 0)→bH b' kd link extra (cW i c cs)→Sat h' (aU u b'::Y::S)→Q .ret E' h'): WP ⟨Tryz.prog,told⟩ 78 piT E h Q:=by
 have hl:=hp.len
 have oH:=hp.low
 have I:=hp.fZ
 have hle:∀n,(le 2 n).length=2:=fun n=>cJ 2 n
 obtain⟨lo,js⟩:∃lo,lo+c.length=c9 b:=⟨c9 b-c.length,by omega⟩
 have Cl:=hp.ins (c:=c) hi js (by omega) hf
 have l0:=NY hl hi (n:=cs.length) (by omega)
 have l1:(az (pF b i cs.length) 14 (le 2 (cs.length+1))).length=512:=by rw[bD (by rw[hle];omega),l0]
 have iA:c9 (az (pF b i cs.length) 14 (le 2 (cs.length+1)))=lo+c.length:=by
  rw[js,c9,c9]
  exact dN fun j h1 h2=>by rw[dM (by rw[hle];omega) (by rw[hle];omega),NZ hl hi (by omega) (by omega)]
 generalize hn:cs.length=n at *
 obtain⟨lD,_,cap,_,rfl,_⟩:=(s.ae [1]).eG (by omega)
 refine WP.has hE (zg rfl (zl rfl (s.b7 (k:=0) rfl bx aS) (zc rfl (f_ hT s (k:=1) rfl (aZ _ _) hl) ?_)))
 rintro r h' ⟨rfl,s⟩
 rw[I]
 refine zk 3 rfl ?_
 have q1:((26:Int)+4*((i:Int)+1)).toNat=30+4*i:=by omega
 have q2:((26:Int)+4*((n:Int)+1)).toNat=30+4*n:=by omega
 have q3:((26:Int)+4*(i:Int)).toNat=26+4*i:=by omega
 have q4:((26:Int)+4*(n:Int)).toNat=26+4*n:=by omega
 have s0:=s
 refine WP.drawn [af,af,af,af,af,af,af,af,af,af,af,af,af,af,af,af,af,af,af,af,af] rfl (by kernel_rfl) (by kernel_rfl) ?_
 refine zF rfl (dW _ _) (zL rfl (s.ld (k:=0) rfl bF rfl) (zM rfl (zO rfl (ak rfl rfl (by exact aQ (aq (by omega) (by omega)))) ?_)))
 refine zO rfl (ak rfl rfl (by exact jx (aq (by omega) (by omega)))) ?_
 refine zO rfl (ak rfl rfl (by exact aQ (aq (by omega) (by omega)))) ?_
 refine zM rfl (zO rfl (ak rfl rfl (by exact aQ (aq (by omega) (by omega)))) ?_)
 refine zO rfl (ak rfl rfl (by exact jx (aq (by omega) (by omega)))) ?_
 refine zO rfl (ak rfl rfl (by exact aQ (aq (by omega) (by omega)))) ?_
 refine zO rfl (bO (p:=some (.int .i64 (26+4*((i:Int)+1)))) (q:=some (.int .i64 (26+4*((n:Int)+1)))) (m:=none) (p':=some (30+4*i)) (q':=some (30+4*n)) (m':=none) rfl rfl rfl rfl (by rw[bT (by omega),q1]) (by rw[bT (by omega),q2]) rfl (fE (s.buf (k:=1) rfl).view (by omega) (by omega)).1) ?_
 refine zF rfl (dW _ _) (zL rfl (s.ld (k:=0) rfl bF rfl) (zM rfl (zO rfl (ak rfl rfl (by exact jx (aq (by omega) (by omega)))) ?_)))
 refine zO rfl (ak rfl rfl (by exact aQ (aq (by omega) (by omega)))) ?_
 refine zM rfl (zO rfl (ak rfl rfl (by exact jx (aq (by omega) (by omega)))) ?_)
 refine zO rfl (ak rfl rfl (by exact aQ (aq (by omega) (by omega)))) ?_
 refine zO rfl (bO (p:=some (.int .i64 (26+4*(i:Int)))) (q:=some (.int .i64 (26+4*(n:Int)))) (m:=none) (p':=some (26+4*i)) (q':=some (26+4*n)) (m':=none) rfl rfl rfl rfl (by rw[bT (by omega),q3]) (by rw[bT (by omega),q4]) rfl (fE (s.buf (k:=1) rfl).view (by omega) (by omega)).1) ?_
 refine aB.any rfl rfl rfl rfl (OpR.Xi (n:=4*(n-i)) rfl (s.ae [1]) rfl rfl rfl rfl (by omega) (by omega) (by omega) (by omega) (by omega)) ?_
 intro r h s
 have s:=s.ae [1,0]
 refine aB.nil ⟨⟨aa,aa,aa,aa,aa,aa,aa,aa,aa,aa,aa,aa,aa,aa,aa,aa,aa,aa,aa,aa,aa,aa⟩,?_⟩
 have s:Sat h (pt p8 _::aU _ (pF b i n)::_):=s
 refine zg rfl (zl rfl (s.b7 (k:=0) rfl bx aS) (zm rfl (zb rfl (by exact aQ (aq (by omega) (by omega))) ?_)))
 refine zo rfl (cL rfl (by exact kJ cm eM (iD (by omega) (by omega)))) ?_
 have en:(n:Int)+1=((n+1:Nat):Int):=by omega
 rw[en]
 refine zc rfl (nQ (a:=14) (z:=2) (n:=n+1) hT (s.ae [1]) (by decide) (by decide) (by omega) (by omega)) ?_
 rintro r h ⟨rfl,s⟩
 have s:=s.ae [1,0]
 refine zk 3 rfl (zl rfl (s.b7 (k:=0) rfl bx aS) (zk 2 rfl (zc rfl (EE (i:=i) (lo:=lo) hT (s.ae [1,1]) hY l1 (by omega) iA (by omega)) ?_)))
 rintro r h ⟨rfl,s⟩
 have s:=s.ae [2,0,0]
 exact zk 3 rfl (zY s 0 dW bF rfl (zk 3 rfl (WP.ret (hq _ _ _ rfl rfl Cl s.drop))))
theorem Lh (hT:W told)(s:Sat h (X::Y::S))(hX:cf X (cy v b))(hY:cf Y (cy x c))(I:bH b kd link extra cs)(hi:i≤cs.length)(gy:c.length≤65536):
  Call ⟨Tryz.prog,told⟩ 53 [v,.int .i64 (i:Int),x] h fun r h'=>(26+4*(cs.length+1)+(tot cs+c.length)≤512∧∃u b',r=.aT [u,.int .i64 0]∧bH b' kd link extra (cW i c cs)∧Sat h' (aU u b'::X::Y::S)) ∨
   (512<26+4*(cs.length+1)+(tot cs+c.length)∧r=.aT [.aR,.int .i64 7]∧Sat h' (X::Y::S)):=by
 have hl:=I.len
 have cU:=I.fits
 have oH:=I.low
 refine Call.of_wp (hT.free _ rfl) Tryz.func53 rfl rfl (zK 8 rfl (zc rfl (o9 hT s hX (by omega)) ?_))
 rintro r h' (⟨hg,u,rfl,s⟩|⟨hg,rfl,s⟩)
 ·obtain⟨lD,_,cap,_,rfl,_⟩:=s.eG (by omega)
  refine zk 3 rfl ?_
  refine au.b_ s rfl rfl rfl (cu jo) (fun p8 h s => ?_)
  dsimp only[V.cells,List.length_cons,List.length_nil,Nat.reduceAdd] at s
  refine zS rfl (s.gX (j:=0) rfl aS rfl rfl) (fun h s => ?_)
  dsimp only[setA] at s
  refine zk 3 rfl (WP.block (zK 3 rfl (zC rfl aH (rfl) (zk 6 rfl (zC rfl aO (by simp) ?_)))))
  refine zk 2 rfl (zl rfl (s.b7 (k:=0) rfl bx aS) (zc rfl (f_ hT s (k:=1) rfl (aZ _ _) hl) ?_))
  rintro r h' ⟨rfl,s⟩
  rw[I.fZ]
  refine zC rfl cV (by simp;omega) ?_
  refine zk 6 rfl (zl rfl (s.b7 (k:=0) rfl bx aS) (zc rfl (I2 hT (s.ae [1]) (aZ _ _) I) ?_))
  rintro r h' ⟨rfl,s⟩
  have s:=s.ae [1,0]
  dsimp only[aL,bringA,getA] at s
  refine zm rfl (zo rfl (aD rfl rfl rfl (aY aK (s.aC (k:=3) rfl hY))) (zb rfl (by exact aQ (aq (by omega) (by omega))) ?_))
  by_cases hf:26+4*(cs.length+1)+(tot cs+c.length)≤512
  ·skip
   refine zC rfl aO (by simp;omega) ?_
   refine za rfl (zv (zj rfl (WP.skip (zw (zg rfl (zl rfl (by exact s.b7 (k:=0) rfl bx aS) ?_))))))
   refine zc rfl (Lf hT s (k:=1) rfl (aZ _ _) I) ?_
   rintro r h' ⟨rfl,s⟩
   refine zm rfl (zo rfl (aD rfl rfl rfl (aY aK (s.aC (k:=3) rfl hY))) (zb rfl (by exact aQ (aq (by omega) (by omega))) ?_))
   by_cases hr:30+4*cs.length+c.length≤c9 b
   ·skip
    refine zC rfl aO (by simp;omega) ?_
    refine zv (zj rfl (WP.skip ?_))
    refine Gj (i:=i) hT hY I hi hf hr (s.ae [0,0,1]) ⟨rfl,rfl,rfl,aa⟩ fun E' h' b' e6 e7 xq s'=>⟨aa,_,wu e6 e7,.inl ⟨hf,_,b',rfl,xq,s'.ae [0,1,0]⟩⟩
   ·skip
    refine zB rfl aO (by simp;omega) ?_
    refine zk 3 rfl (zl rfl (s.b7 (k:=0) rfl bx aS) (zc rfl (N6 hT (s.ae [1]) I (by omega)) ?_))
    rintro r h ⟨rfl,b2,AZ,s⟩
    have h2:=AZ.low
    have s:=s.ae [1,0]
    refine zv ?_
    refine Gj (i:=i) hT hY AZ.f hi hf (by omega) (s.ae [0,0,1]) ⟨rfl,rfl,rfl,aa⟩ fun E' h' b' e6 e7 xq s'=>⟨aa,_,wu e6 e7,.inl ⟨hf,_,b',rfl,xq,s'.ae [0,1,0]⟩⟩
  ·skip
   refine zB rfl aO (by simp;omega) ?_
   exact zk 8 rfl (WP.ret ⟨aa,_,rfl,.inr ⟨by omega,rfl,s.del 1 |>.del 0⟩⟩)
 ·rw[I.good] at hg;cases hg
noncomputable def prT : Code:=eu [1,1,1,1,1,1,1,1] ((Tryz.f51.body).getD .skip)
theorem Gk (hT:W told)(hY:cf Y (cy x c))(hp:bH b kd link extra cs)(hc:cs[i]?=some c')(hr:26+4*cs.length+c.length≤c9 b)(hf:26+4*cs.length+tot (cs.set i c)≤512)(s:Sat h (pt p8 (.cells 1 [u] false)::aU u b::Y::S))(hE:Has E [(1,.int .i64 (i:Int)),(2,x),(8,.ptr p8 0)])
 (hq:∀E' h' b',look E' 6=some u→look E' 7=some (.int .i64 0)→bH b' kd link extra (cs.set i c)→Sat h' (aU u b'::Y::S)→Q .ret E' h'): WP ⟨Tryz.prog,told⟩ 79 prT E h Q:=by
 have hl:=hp.len
 have oH:=hp.low
 have hi:=(List.getElem?_eq_some_iff.1 hc).1
 obtain⟨lo,I⟩:∃lo,lo+c.length=c9 b:=⟨c9 b-c.length,by omega⟩
 have Cl:=hp.below hc I (by omega) hf
 refine WP.has hE (zg rfl (zl rfl (s.b7 (k:=0) rfl bx aS) (zk 2 rfl (zc rfl (EE (i:=i) (lo:=lo) hT (s.ae [1,1]) hY hl (by omega) I.symm (by omega)) ?_))))
 rintro r h ⟨rfl,s⟩
 have s:=s.ae [2,0,0]
 exact zk 3 rfl (zY s 0 dW bF rfl (zk 3 rfl (WP.ret (hq _ _ _ rfl rfl Cl s.drop))))
theorem Vm (hT:W told)(s:Sat h (X::Y::S))(hX:cf X (cy v b))(hY:cf Y (cy x c'))(hp:bH b kd link extra cs)(hc:cs[i]?=some c)(gy:c'.length≤65536):
  Call ⟨Tryz.prog,told⟩ 51 [v,.int .i64 (i:Int),x] h fun r h'=>(26+4*cs.length+tot (cs.set i c')≤512∧∃u b',r=.aT [u,.int .i64 0]∧bH b' kd link extra (cs.set i c')∧Sat h' (aU u b'::X::Y::S)) ∨
   (512<26+4*cs.length+tot (cs.set i c')∧r=.aT [.aR,.int .i64 7]∧Sat h' (X::Y::S)):=by
 have hl:=hp.len
 have cU:=hp.fits
 have oH:=hp.low
 have hi:=(List.getElem?_eq_some_iff.1 hc).1
 have ht:=pZ (c':=c') hc
 have ht0:=pZ (c':=[]) hc
 rw[cj] at ht0
 obtain⟨t0,s1,s2,s3⟩:=hp.slot i c hc
 refine Call.of_wp (hT.free _ rfl) Tryz.func51 rfl rfl (zK 8 rfl (zc rfl (o9 hT s hX (by omega)) ?_))
 rintro r h' (⟨hg,u,rfl,s⟩|⟨hg,rfl,s⟩)
 ·obtain⟨lD,_,cap,_,rfl,_⟩:=s.eG (by omega)
  refine zk 3 rfl ?_
  refine au.b_ s rfl rfl rfl (cu jo) (fun p8 h s => ?_)
  dsimp only[V.cells,List.length_cons,List.length_nil,Nat.reduceAdd] at s
  refine zS rfl (s.gX (j:=0) rfl aS rfl rfl) (fun h s => ?_)
  dsimp only[setA] at s
  refine zk 3 rfl (WP.block (zK 3 rfl (zC rfl aH (rfl) (zk 6 rfl (zC rfl aO (by simp) ?_)))))
  refine zk 2 rfl (zl rfl (s.b7 (k:=0) rfl bx aS) (zc rfl (f_ hT s (k:=1) rfl (aZ _ _) hl) ?_))
  rintro r h' ⟨rfl,s⟩
  rw[hp.fZ]
  refine zC rfl mV (by simp;omega) ?_
  refine zk 2 rfl (zv (zj rfl (WP.skip (zg rfl (zl rfl (by exact s.b7 (k:=0) rfl bx aS) ?_)))))
  refine zm rfl (zc rfl (tj (i:=i) hT s (k:=1) rfl (aZ _ _) hl (by omega)) ?_)
  rintro r h' ⟨rfl,s⟩
  rw[s2]
  refine zk 10 rfl (zo rfl (aD rfl rfl rfl (aY aK (s.aC (k:=3) rfl hY))) (zm rfl ?_))
  by_cases hle:c'.length≤c.length
  ·have Cl:=hp.rep (c':=c') hc hle
   generalize hf:bw b i=f at t0 s1 s3 Cl
   have l1:(az b f c').length=512:=by rw[bD (by omega),hl]
   refine zB rfl r9 (by simp;omega) ?_
   refine zk 4 rfl (zY s 0 dW bF rfl (zm rfl ?_))
   have I:=hU (s.aC (k:=1) rfl (aZ _ _)) (a:=f) (by omega)
   refine zo rfl (bO (p:=some (.int .i64 (f:Int))) (q:=none) (m:=none) (p':=some f) (q':=none) (m':=none) rfl rfl rfl rfl (by rfl) rfl rfl I.1) ?_
   refine zm rfl (au.any rfl rfl rfl (OpR.JM rfl (s.ae [1,2]) hY rfl rfl rfl rfl (by omega) (aI _) (by omega)) ?_)
   intro r h s
   rw[gT (by omega)] at s
   have s:=s.ae [2,0,1,0]
   refine zk 3 rfl (zl rfl (s.b7 (k:=0) rfl bx aS) (zk 3 rfl (zo rfl (aD rfl rfl rfl (aY aK (s.aC (k:=3) rfl hY))) (zc rfl (sE (i:=i) (f:=f) (z:=c'.length) hT (s.ae [1]) l1 (by omega) (by omega) (by omega)) ?_))))
   rintro r h ⟨rfl,s⟩
   have s:=s.ae [1,0]
   exact zk 3 rfl (zY s 0 dW bF rfl (zk 3 rfl (WP.ret ⟨aa,_,rfl,.inl ⟨by omega,_,_,rfl,Cl,s.drop⟩⟩)))
  ·skip
   refine zC rfl r9 (by simp;omega) ?_
   refine zk 6 rfl (zl rfl (s.b7 (k:=0) rfl bx aS) (zc rfl (I2 hT (s.ae [1]) (aZ _ _) hp) ?_))
   rintro r h' ⟨rfl,s⟩
   have s:=s.ae [1,0]
   refine zm rfl (zo rfl (aD rfl rfl rfl (aY aK (s.aC (k:=3) rfl hY))) (zm rfl (zb rfl (by exact ew (aq (by omega) (by omega))) ?_)))
   by_cases hf:26+4*cs.length+tot (cs.set i c')≤512
   ·have wP:=hp.none hc
    have h0:(cs.set i [])[i]?=some []:=jF hi
    have HV:(cs.set i []).set i c'=cs.set i c':=by simp
    have I:(cs.set i ([]:List Nat)).length=cs.length:=cI
    refine zC rfl aO (by simp;omega) ?_
    refine zk 4 rfl ?_
    have z0:=s
    refine WP.drawn [some (0,2),some (0,2),af,af,af] rfl (by kernel_rfl) (by kernel_rfl) ?_
    refine zL rfl (s.b7 (k:=0) rfl bx aS) (zM rfl (zL rfl (s.b7 (k:=0) rfl bx aS) (aB.any rfl rfl rfl rfl (OpR.call rfl rfl rfl rfl (B2 hT s (k:=1) rfl (aZ _ _) hl)) ?_)))
    rintro r h' ⟨rfl,s⟩
    have z1:=s
    refine aB.any rfl rfl rfl rfl (OpR.call rfl rfl rfl rfl (sE (i:=i) (f:=c9 b) (z:=0) hT (s.ae [1]) hl (by omega) (by omega) (by omega))) ?_
    rintro r h ⟨rfl,s⟩
    have s:=s.ae [1,0]
    refine aB.nil ⟨⟨fV (.inr ⟨rfl,⟨_,o_load rfl (z0.b7 (k:=0) rfl bx aS)⟩,bg _ rfl⟩) (.inr ⟨rfl,⟨_,o_load rfl (z1.b7 (k:=0) rfl bx aS)⟩,bg _ rfl⟩),fun _ _=>.inr ⟨rfl,⟨_,bV rfl⟩,bg _ rfl⟩,aa,aa,aa,aa⟩,?_⟩
    refine zK 3 rfl (zl rfl (s.b7 (k:=0) rfl bx aS) (zc rfl (Lf hT s (k:=1) rfl (aZ _ _) wP) ?_))
    rintro r h' ⟨rfl,s⟩
    rw[I]
    refine zm rfl (zo rfl (aD rfl rfl rfl (aY aK (s.aC (k:=3) rfl hY))) ?_)
    by_cases hr:26+4*cs.length+c'.length≤c9 (l_ b i (c9 b) 0)
    ·skip
     refine zC rfl aO (by simp;omega) ?_
     refine zk 3 rfl ?_
     refine Gk (i:=i) hT hY wP h0 (by rw[I];exact hr) (by rw[HV,I];exact hf) (s.ae [0,0,1]) ⟨rfl,rfl,rfl,aa⟩ fun E' h' b' e6 e7 xq s'=>⟨aa,_,wu e6 e7,.inl ⟨hf,_,b',rfl,by rw[←HV];exact xq,s'.ae [0,1,0]⟩⟩
    ·skip
     refine zB rfl aO (by simp;omega) ?_
     refine zk 3 rfl (zl rfl (s.b7 (k:=0) rfl bx aS) (zc rfl (N6 hT (s.ae [1]) wP (by rw[I];omega)) ?_))
     rintro r h ⟨rfl,b2,AZ,s⟩
     have h2:=AZ.low
     have s:=s.ae [1,0]
     refine zv ?_
     refine Gk (i:=i) hT hY AZ.f h0 (by rw[I];omega) (by rw[HV,I];exact hf) (s.ae [0,0,1]) ⟨rfl,rfl,rfl,aa⟩ fun E' h' b' e6 e7 xq s'=>⟨aa,_,wu e6 e7,.inl ⟨hf,_,b',rfl,by rw[←HV];exact xq,s'.ae [0,1,0]⟩⟩
   ·skip
    refine zB rfl aO (by simp;omega) ?_
    exact zk 7 rfl (WP.ret ⟨aa,_,rfl,.inr ⟨by omega,rfl,s.del 1 |>.del 0⟩⟩)
 ·rw[hp.good] at hg;cases hg
end
abbrev cX (us:List V)(cs:List (List Nat)): aE:=each (fun v c=>.cg v c) us cs
section
variable {us:List V}
theorem aJ.yX (us:List V)(cs:List (List Nat)): aJ (cX us cs):=aJ.each (fun _ _=>aJ.cg _ _) _ _
theorem N7 (s:Sat h S): Sat h (cX [] []::S):=s.gQ (φ:=True) aa
theorem Vn (s:Sat h (oP u c::cX us cs::S)): Sat h (cX (us++[u]) (cs++[c])::S) :=
 (s.ae [1]).two (aJ.yX _ _) (aJ.cg _ _) fun _ _ a b=>Ad a ⟨b,aa⟩
theorem SD (s:Sat h (cX us cs::S))(I:cs[i]?=some c): ∃u,us[i]?=some u∧Sat h (oP u c::cX us cs::S):=ND (fun _ _=>aJ.cg _ _) s I
theorem jZ (s:Sat h (cX us cs::S)): us.length=cs.length:=by
 obtain⟨_,_,_,_,I⟩:=s.at (k:=0) rfl
 exact Er I
end
section
variable {told:cE} {v:V}
noncomputable def pcL : Code:=eu [1,1,1,1,0,1,0,0] ((Tryz.f160.body).getD .skip)
theorem Li (hT:W told){p4:Nat}(hX:cf X (cy x b))(Iu:x.cells=[x])(hp:bH b kd link extra cs): ∀(m i:Nat) (w:V) (us:List V) (h:H) (E:List (Nat×V)) (Q:Ex→List (Nat×V)→H→Prop),i+m=cs.length→us.length=i →
  Sat h (pt p4 (.cells 1 [x] false)::X::.arr 1 w us::cX us (cs.take i)::S)→Has E [(4,.ptr p4 0),(6,w),(20,.int .i64 (cs.length:Int)),(21,.int .i64 (i:Int))] →
  (∀E' h' w' SE,SE.length=cs.length→Has E' [(6,w')]→Sat h' (pt p4 (.cells 1 [x] false)::X::.arr 1 w' SE::cX SE cs::S)→Q (.exit 0) E' h')→WP ⟨Tryz.prog,told⟩ 33 (.loop pcL) E h Q:=by
 have hl:=hp.len
 have cU:=hp.fits
 obtain⟨i1,dy,fy,o8⟩:=qP
 intro m
 induction m with
 |zero =>
  intro i w us h E Q hi sQ s hE hq
  have hi:i=cs.length:=hi
  subst hi
  rw[mo] at s
  refine WP.loop (WP.has hE (zg rfl (zC rfl aO (by simp) ?_)))
  exact zk 3 rfl (WP.exit (hq _ _ _ us sQ ⟨rfl,aa⟩ s))
 |succ m ih =>
  intro i w us h E Q hi sQ s hE hq
  have I:cs[i]?=some (cs[i]'(by omega)):=aG _
  generalize (cs[i]'(by omega))=c at I
  obtain⟨t0,s1,s2,s3⟩:=hp.slot i c I
  have uK:cs.take (i+1)=cs.take i++[c]:=by rw[qV,I];rfl
  refine WP.loop (WP.has hE (zg rfl (zB rfl aO (by simp;omega) ?_)))
  refine zk 5 rfl (WP.block (zK 7 rfl (zl rfl (s.b7 (k:=0) rfl bx aS) (zm rfl (zc rfl (Le (i:=i) (c:=c) hT s (k:=1) rfl hX hp I) ?_)))))
  rintro r h' ⟨f,rfl,hr,s⟩
  refine zc rfl (xn hT (s.ae [1]) hr (by omega)) ?_
  intro u0 h s
  have Xf:=(s.buf (k:=0) rfl).view.cells
  have s:=s.eW
  have s:=s.ae [0,3]
  dsimp only[aL,bringA,getA] at s
  have s:=Vn s
  rw[←uK] at s
  have s:=s.ae [3]
  dsimp only[bringA,getA,aL] at s
  obtain⟨iv,h1,wj,s1⟩:=lR (P:=Tryz.prog) (k:=1) (x:=u0) s aP lq dH rfl (by decide) (by decide) (by grind) (by grind)
  rw[Xf.1] at s1
  refine au.any rfl rfl rfl (OpR.of (R:=fun v h'=>v=iv∧h'=h1) (ku rfl wj) ⟨rfl,rfl⟩) ?_
  rintro v' h' ⟨rfl,rfl⟩
  obtain⟨av,h2,sB,s2⟩:=h_ (s1.ae [1,0]) aP dy lq fy (by omega) rfl (by decide) (by simp;omega)
  dsimp only[aL,bringA] at s2
  refine au.any rfl rfl rfl (OpR.of (R:=fun v h'=>v=av∧h'=h2) (j_ rfl rfl sB) ⟨rfl,rfl⟩) ?_
  rintro v' h ⟨rfl,rfl⟩
  have s:=(s2.del 1).ae [3,2,0,0]
  dsimp only[aL,bringA,getA] at s
  refine za rfl (zv (zr rfl (zb rfl (by exact aQ (aq (by omega) (by omega))) ?_)))
  refine zm rfl (zv ?_)
  exact ih (i+1) _ _ _ _ Q (by omega) (by rw[aX,sQ];rfl) s ⟨rfl,rfl,rfl,rfl,aa⟩ hq
theorem P3 (hT:W told)(s:Sat h (X::S))(hX:cf X (cy v b))(I:bH b kd link extra cs):
  Call ⟨Tryz.prog,told⟩ 160 [v] h fun r h'=>∃w us,r=.aT [w,.int .i64 0]∧Sat h' (.arr 1 w us::cX us cs::X::S):=by
 have hl:=I.len
 have hv:=s.aC (k:=0) rfl hX
 have cU:=I.fits
 obtain⟨pi,po,pc,rfl⟩:=iE hv (by omega)
 obtain⟨i1,dy,fy,o8⟩:=qP
 refine Call.of_wp (hT.free _ rfl) KV rfl rfl (zK 8 rfl (zc rfl (ue hT s hX (by omega)) ?_))
 rintro r h' ⟨s,(⟨hg,rfl⟩|⟨hg,rfl⟩)⟩
 ·refine au.op rfl rfl rfl (bV rfl) ?_
  refine zk 2 rfl ?_
  refine au.b_ s rfl rfl rfl (cu jo) (fun p4 h s => ?_)
  refine zS rfl (s.gX (j:=0) rfl aS rfl rfl) (fun h s => ?_)
  refine zk 6 rfl (zC rfl aH (rfl) (zk 5 rfl (zl rfl (s.b7 (k:=0) rfl bx aS) (zc rfl (f_ hT s (k:=1) rfl hX hl) ?_))))
  rintro r h' ⟨rfl,s⟩
  rw[I.fZ]
  obtain⟨wv,h1,e3,s1⟩:=IG (P:=Tryz.prog) s aP dy lq fy (by omega) rfl (by decide) (by decide) (n:=0) (c:=cs.length) (by omega) (by omega)
  refine au.any rfl rfl rfl (OpR.of (R:=fun v h'=>v=wv∧h'=h1) (Dg rfl rfl e3) ⟨rfl,rfl⟩) ?_
  rintro w0 h ⟨rfl,rfl⟩
  have s:Sat h (.arr 1 w0 []::_):=s1
  have s:=N7 s
  have s:=s.ae [2,2,1,0]
  refine zk 5 rfl (zl rfl (s.b7 (k:=0) rfl bx aS) (zc rfl (f_ hT s (k:=1) rfl hX hl) ?_))
  rintro r h' ⟨rfl,s⟩
  rw[I.fZ]
  refine zk 2 rfl (WP.block (Li hT hX rfl I cs.length 0 _ [] _ _ _ (by omega) rfl s ⟨rfl,rfl,rfl,rfl,aa⟩ fun E' h' w' SE sQ eN s' => ?_))
  have s:=s'
  exact WP.has eN (zK 6 rfl (WP.ret ⟨aa,_,rfl,_,SE,rfl,(s.ae [2,2,1]).del 3⟩))
 ·rw[I.good] at hg;cases hg
end
def cmpN : List Nat→List Nat→Int
 |[],[]=>0
 |[],_::_=>.negSucc 0
 |_::_,[]=>1
 |a::l,b::m=>cond (Nat.blt a b) (.negSucc 0) (cond (Nat.blt b a) 1 (cmpN l m))
noncomputable def byteList (h:H): V→Option (List Nat)
 |.aR=>some []
 |.sl id off len _=>match rdN h id off len with
  |some cs=>bytesOf cs
  |none=>none
 |_=>none
theorem Xk {b:Nat}(I:a<256)(hb:b<256): (UInt8.ofNat a<UInt8.ofNat b)↔a<b:=by
 rw[UInt8.lt_iff_toNat_lt,UInt8.toNat_ofNat',UInt8.toNat_ofNat',vm I,vm hb]
theorem Y1 : ∀(l m:List Nat),(∀x∈l,x<256)→(∀x∈m,x<256)→Lib.compareBytes (l.map UInt8.ofNat) (m.map UInt8.ofNat)=cmpN l m:=by
 intro l
 induction l with
 |nil=>intro m _ _;cases m<;>rfl
 |cons a l ih =>
  intro m hl hm
  cases m with
  |nil=>rfl
  |cons b m =>
   have ha:=hl a bB
   have hb:=hm b bB
   simp only[ik,Lib.compareBytes,cmpN,Xk ha hb,Xk hb ha]
   by_cases I:a<b
   ·rw[ay I,fS.2 I];rfl
   ·have:Nat.blt a b=false:=by
     cases hq:Nat.blt a b with
     |true=>exact absurd (fS.1 hq) I
     |false=>rfl
    rw[ai I,this,aV]
    by_cases h2:b<a
    ·rw[ay h2,fS.2 h2,ah]
    ·have:Nat.blt b a=false:=by
      cases hq:Nat.blt b a with
      |true=>exact absurd (fS.1 hq) h2
      |false=>rfl
     rw[ai h2,this,aV]
     exact ih m (fun x hx=>hl x (bA _ hx)) (fun x hx=>hm x (bA _ hx))
section
variable {c:Ctx} {σ:H} {w:World}
theorem MP (h:Rel c σ w)(hw:wf c x)(hl:byteList σ x=some l):
  (∀y∈l,y<256)∧(Extern.Bytes.bytesOf (conc c x)).run P w=.ok ⟨(l.map UInt8.ofNat).toArray⟩ w:=by
 unfold byteList at hl
 split at hl
 ·simp only[aA] at hl
  subst hl
  refine⟨fun y I=>(jY I).elim,?_⟩
  simp only[conc]
  rfl
 ·rename_i id off len cap
  cases hr:rdN σ id off len with
  |none=>simp[hr] at hl
  |some cs =>
   simp only[hr] at hl
   obtain⟨ns,h1,h2⟩:=E5 (c:=c) cs l hl
   obtain⟨a,n,e1,e2,e3,e4⟩:=yz (P:=P) h hw hr (fun h=>h)
   refine⟨fun y I => ?_,?_⟩
   ·rw[h2] at I
    obtain⟨z,_,rfl⟩:=List.mem_map.1 I
    exact C5 _ (by decide)
   ·rw[e1]
    have hlen:ns.length=len:=by
     have:=dn List.length h1
     simp only[bX] at this
     rw[←this]
     exact(tT h hr).1
    have hq:=Lib.run_loadBytesX (P:=P) w ns a .empty (fun j y hj=>e4 j _ (by rw[h1,jW,hj];rfl))
    rw[hlen] at hq
    show(Extern.Bytes.loadBytes a len .empty).run P w=_
    rw[hq]
    congr 1
    apply CV
    show(#[]:Array UInt8)++(Lib.bytesOf ns).toArray=_
    rw[h2]
    simp only[Array.empty_append,Lib.bytesOf,List.map_map]
    congr 1
    refine yf fun y _ => ?_
    simp only[Function.comp_apply,ofNat_mod]
 ·cases hl
end
theorem Y2 {x y:Value}{a:List Nat}{w:World}(I:∀z∈a,z<256)(hb:∀z∈b,z<256)
 (hx:(Extern.Bytes.bytesOf x).run P w=.ok ⟨(a.map UInt8.ofNat).toArray⟩ w)(hy:(Extern.Bytes.bytesOf y).run P w=.ok ⟨(b.map UInt8.ofNat).toArray⟩ w):
  (Extern.BytealgCompare.compare #[x,y]).run P w=.ok (.int .i64 (cmpN a b)) w:=by
 change Sem.run P (do pure (goInt (Extern.BytealgCompare.cmp (← Extern.Bytes.bytesOf x) (← Extern.Bytes.bytesOf y)))) w=_
 simp only[Sem.run_bind,Sem.run_pure,hx,hy,Result.andThen]
 rw[Lib.cmp_eq,Y1 a b I hb]
 rfl
def HW (cap:Cap)(k n:Nat): Prop:=match cap with
 |.exact c=>n≤c
 |.rest e _=>e=k
def xx (m:PM)(k:Nat)(v:V)(cs:List V): Prop:=cs.all storable=true∧((v=.aR∧cs=[]) ∨
 ∃id off n cap N row,v=.sl id off n cap∧m id=some (.cells N row false)∧row.length=N∧off+n*k≤N∧(row.drop off).take (n*k)=cs∧HW cap k n)
theorem xx.up {m m':PM}{v:V}{cs:List V}(h:xx m k v cs)(hm:PM.le m m'): xx m' k v cs:=by
 obtain⟨h1,I⟩:=h
 refine⟨h1,?_⟩
 rcases I with I|⟨id,off,n,cap,N,row,e,hg,h3⟩
 ·exact .inl I
 ·exact .inr ⟨id,off,n,cap,N,row,e,hm _ _ hg,h3⟩
theorem qI.sl {m:PM}{v:V}{cs:List V}(h:qI m k v cs): xx m k v cs:=by
 obtain⟨h1,I⟩:=h
 refine⟨h1,?_⟩
 rcases I with I|⟨id,n,cap,N,rest,e,hg,h3,h4,h5,h6⟩
 ·exact .inl I
 ·refine .inr ⟨id,0,n,cap,N,cs++rest,e,hg,by rw[aX];exact h4,by omega,by rw[ij,←h3,gq rfl],?_⟩
  cases cap with
  |exact c=>exact h6.2
  |rest a b=>exact h6.1
def wB (X:aE)(k:Nat)(v:V)(cs:List V): Prop:=∀m r,X.p m r→xx m k v cs∨xx r k v cs
theorem Ny.s {v:V}{cs:List V}(h:Ny X k v cs): wB X k v cs:=fun m r hm=>(h m r hm).imp qI.sl qI.sl
def roS (k:Nat)(v:V)(cs:List V): aE:=.xs fun o:Option (Nat×Nat×Nat×Cap×Nat×List V)=>match o with
 |none=>.pu (cs.all storable=true∧v=.aR∧cs=[])
 |some (id,off,n,cap,N,row)=>.an (.ro id (.cells N row false)) (.pu (cs.all storable=true∧v=.sl id off n cap∧row.length=N∧off+n*k≤N∧(row.drop off).take (n*k)=cs∧HW cap k n))
theorem dK (k:Nat)(v:V)(cs:List V): wB (roS k v cs) k v cs:=fun m r h=>by
 obtain⟨_|⟨id,off,n,cap,N,row⟩,h⟩:=h
 ·exact .inr ⟨h.1,.inl h.2⟩
 ·exact .inr ⟨h.2.1,.inr ⟨id,off,n,cap,N,row,h.2.2.1,h.1,h.2.2.2⟩⟩
theorem JN {v:V}{cs:List V}: cf (roH k v cs) (roS k v cs):=fun m r h=>by
 obtain⟨_|⟨id,n,cap,N,rest⟩,h⟩:=h
 ·exact⟨none,h⟩
 ·obtain⟨h1,h2,h3,h4,h5,h6,I⟩:=h
  refine⟨some (id,0,n,cap,N,cs++rest),h1,h2,h3,by rw[aX];exact h5,by omega,by rw[ij,←h4,gq rfl],?_⟩
  cases cap with
  |exact c=>exact I.2
  |rest a b=>exact I.1
section
variable {v:V} {cs:List V} {e:TypeId}
theorem Sat.kZ (s:Sat h S)(I:getA S j=some X)(hX:wB X k v cs): xx (T.get h.tr) k v cs:=by
 obtain⟨m,r,h1,h2,h3⟩:=s.at I
 rcases hX _ _ h3 with q|q
 ·exact q.up h1
 ·exact q.up h2
theorem j3 (a:xx (T.get h.tr) k v cs): v.cells=[v]∧storable v=true∧v.beq v=true:=by
 rcases a.2 with⟨rfl,_⟩|⟨id,off,n,cap,N,row,rfl,_⟩
 ·exact⟨rfl,rfl,rfl⟩
 ·exact⟨rfl,rfl,z8 _ _ _ _⟩
theorem SF {n:Nat}(a:xx (T.get h.tr) k v cs)(hn:cs.length=n*k)(hk:1≤k)(hu:P.underlying t=some (.slice e)): lenV P h t v=some (.int .i64 n):=by
 rcases a.2 with⟨rfl,rfl⟩|⟨id,off,n',cap,N,row,rfl,hg,h1,h2,h3,_⟩
 ·have:n=0:=by
   rcases pM n with I|I
   ·exact I
   ·have:=vr I hk
    simp at hn
    omega
  simp_all[lenV]
 ·have hl:cs.length=n'*k:=by rw[←h3,cH,fc];omega
  have:n'=n:=GN hk (by omega)
  subst this
  simp only[lenV,hu]
theorem aaW (a:xx (T.get h.tr) k v cs)(hi:i*k+k≤cs.length)(hk:1≤k)(hu:P.underlying t=some (.slice e))(I:bp P e=some k):
  ∃id off,indexAddrV P t v (.int .i64 (i:Int))=some (.ptr id off)∧∀m c t',((cs.drop (i*k)).take k)[m]?=some c→isAggT P t'=some false→loadV P h t' (.ptr id (off+m))=some c:=by
 rcases a.2 with⟨_,rfl⟩|⟨id,off,n,cap,N,row,rfl,hg,h1,h2,h3,_⟩
 ·simp at hi;omega
 ·have hl:cs.length=n*k:=by rw[←h3,cH,fc];omega
  have xb:i<n:=by
   refine Nat.lt_of_not_le fun q => ?_
   have:=pK k q
   omega
  refine⟨id,off+i*k,?_,fun m c t' hc ht=>D1 ht hg ?_⟩
  ·simp only[indexAddrV,hu,I,gU]
   grind
  ·have hm:=(List.getElem?_eq_some_iff.1 hc).1
   rw[cH] at hm
   rw[ig,ay (by omega),fb,←h3,ig,ay (by omega),fb] at hc
   rw[gF,←hc]
   congr 1
   omega
theorem aaX (a:xx (T.get h.tr) k v cs): ∃n,cs.length=n*k∧srcV h k v=some (cs,n):=by
 rcases a.2 with⟨rfl,rfl⟩|⟨id,off,n,cap,N,row,rfl,hg,h1,h2,I,_⟩
 ·exact⟨0,by simp,rfl⟩
 ·have hl:cs.length=n*k:=by rw[←I,cH,fc];omega
  refine⟨n,hl,?_⟩
  have hr:rdN h id off (n*k)=some cs:=by
   simp only[rdN,hg]
   rw[aW.2 h2,ah]
   cases hq:(Nat.beq off 0&&Nat.beq (n*k) N) with
   |true =>
    simp only[bQ,beq_iff] at hq
    rw[ah,←I,hq.1,ij,hq.2,←h1,mo]
   |false=>rw[aV,I]
  simp only[srcV,hr,gJ]
theorem Lj (s:Sat h (roS k v cs::S)): (v=.aR∧cs=[])∨∃id off n cap N row,v=.sl id off n cap∧row.length=N∧off+n*k≤N∧(row.drop off).take (n*k)=cs∧HW cap k n∧cs.all storable=true∧Sat h (ro id (.cells N row false)::S):=by
 obtain⟨_|⟨id,off,n,cap,N,row⟩,s⟩:=jv.1 s
 ·exact .inl (r8.1 s).1.2
 ·have s:Sat h (aE.an (.ro id (.cells N row false)) (.pu (cs.all storable=true∧v=.sl id off n cap∧row.length=N∧off+n*k≤N∧(row.drop off).take (n*k)=cs∧HW cap k n))::S):=s
  obtain⟨_,_,_,_,I⟩:=s.at (k:=0) rfl
  obtain⟨_,q1,q2,q3,q4,q5,q6⟩:=I
  exact .inr ⟨id,off,n,cap,N,row,q2,q3,q4,q5,q6,q1,s.dQ fun _ _ h=>h.1⟩
theorem uo {n:Nat}{row:List V}(I:row.length=N)(q4:off+n*k≤N)(q5:(row.drop off).take (n*k)=cs)(q6:HW cap k n)(q1:cs.all storable=true)(s:Sat h (ro id (.cells N row false)::S)): Sat h (roS k (.sl id off n cap) cs::S) :=
 s.dQ fun _ _ h=>⟨some (id,off,n,cap,N,row),h,q1,rfl,I,q4,q5,q6⟩
theorem Xl {b:Nat}(s:Sat h (roS 1 v cs::S))(hb:b≤cs.length)(h1:1≤b)(hu:P.underlying t=some (.slice e))(rM:bp P e=some 1): ∃v',sliceV P h t v none (some b) (some b)=some v'∧Sat h (roS 1 v' (cs.take b)::roS 1 v cs::S):=by
 rcases Lj s with⟨rfl,rfl⟩|⟨id,off,n,cap,N,row,rfl,q3,q4,q5,I,q1,s⟩
 ·simp at hb;omega
 ·have hl:cs.length=n:=by rw[←q5,cH,fc];omega
  have s:=(uo (cs:=cs) q3 q4 q5 I q1 (s.dup (aJ.ro _ _))).ae [1]
  have s:Sat h (roS 1 (.sl id off b (.exact b)) (cs.take b)::_):=uo q3 (by omega) (by rw[←q5,q_];congr 1;omega) (aI _) (by
   rw[oA] at q1 ⊢
   exact fun x hx=>q1 x (iV hx)) s
  refine⟨.sl id off b (.exact b),?_,s⟩
  cases cap with
  |exact c =>
   have I:n≤c:=I
   simp only[sliceV,hu,rM,fR]
   rw[show(Nat.ble 0 b&&Nat.ble b b&&Nat.ble b c)=true by simp;omega,ah,fH (by omega),aV,nC,eS,iW]
  |rest a alt =>
   have I:a=1:=I
   simp only[sliceV,hu,rM,fR]
   rw[show(Nat.beq a 1&&Nat.ble 1 1)=true by simp[I],ah,show(Nat.ble 0 b&&Nat.ble b b&&(Nat.ble b n||Nat.ble b (fU h id off 1))&&Nat.blt 0 n)=true by simp;omega,ah,fH (by omega),aV,nC,eS,iW]
theorem Xm (s:Sat h (roS 1 v cs::S))(ha:a<cs.length)(hu:P.underlying t=some (.slice e))(rM:bp P e=some 1): ∃v',sliceV P h t v (some a) none none=some v'∧Sat h (roS 1 v' (cs.drop a)::roS 1 v cs::S):=by
 rcases Lj s with⟨rfl,rfl⟩|⟨id,off,n,cap,N,row,rfl,q3,q4,q5,q6,q1,s⟩
 ·simp at ha
 ·have hl:cs.length=n:=by rw[←q5,cH,fc];omega
  have s:=(uo (cs:=cs) q3 q4 q5 q6 q1 (s.dup (aJ.ro _ _))).ae [1]
  have key:∀I,HW I 1 (n-a)→Sat h (roS 1 (.sl id (off+a*1) (n-a) I) (cs.drop a)::roS 1 (.sl id off n cap) cs::S):=fun I hc =>
   uo (cs:=cs.drop a) q3 (by omega) (by rw[←q5,lM,vt,dV,dV,dV]) hc (by
    rw[oA] at q1 ⊢
    exact fun x hx=>q1 x (jh hx)) s
  cases cap with
  |exact c =>
   have q6:n≤c:=q6
   refine⟨_,?_,key (.exact (c-a)) (by show n-a≤c-a;omega)⟩
   simp only[sliceV,hu,rM,fR,dD]
   rw[show(Nat.ble a n&&Nat.ble n c)=true by simp;omega,ah,fH (by omega),aV]
  |rest z alt =>
   have q6:z=1:=q6
   refine⟨_,?_,key (.rest 1 (cond (Nat.beq a 0) alt (cond (Nat.blt a n) (off+a*1) off))) rfl⟩
   simp only[sliceV,hu,rM,fR,dD]
   rw[show(Nat.beq z 1&&Nat.ble 1 1)=true by simp[q6],ah,show(Nat.ble a n&&(Nat.ble n n||Nat.ble n (fU h id off 1)))=true by simp;omega,ah]
end
end Go.Proofs.YtdonpgpfplgigaaGreat.Am
