/- TreeKept: a part of its proof; conditions: its statement's. -/
import Derived.Test.YtdonpgpfplgigaaGreatL04
import Derived.Test.YtdonpgpfplgigaaGreatL02
import Derived.Lib.BytesEntry
import Derived.Laws.Externs
import Derived.WalkKit
import Derived.ProofKit
set_option linter.defProp false
namespace Go.Proofs.YtdonpgpfplgigaaGreat.Am
open Go
def zI:=@Tryz.underlying24
def ID:=@Tryz.func160
variable {X Y:aI} {cap:Cap} {C:fB} {δ Ng:Dk} {ε aj:bw} {Q:Ex→List (Nat×V)→H→Prop} {cl:Go.Call} {h:H} {n e pg:Int} {P':Int→List Nat} {R:LD→Prop} {μ:Lg} {d:List (Int×(Nat×Bool))} {now bH:List (Int×List Nat)} {cs cs':List (List Nat)} {E:List (Nat×V)} {S:List aI} {b l was data b0 c Nh b' c' ps pO:List Nat} {g i a r k q c8 bA id bf z tx pv nx kd N j K B link extra off p1 L M p8:Nat} {F:Nat→List (List Nat)→Prop} {π bY:Pl} {P:Program} {α β:Type} {t:TypeId} {w x u wh di kv dt:V}
def iT (m:List Fm): Nat:=(m.map (·.changed)).count true
theorem mQ {f g:Fm}: ∀ {m:List Fm} {i:Nat},m[i]?=some f→iT (m.set i g)+f.changed.toNat=iT m+g.changed.toNat:=by
 intro m
 induction m with
 |nil=>simp
 |cons x m I =>
  intro i h
  cases i<;>grind[iT]
theorem Dv {g:Fm}(I:g.changed=false): ∀ {m:List Fm} {i:Nat},iT (m.set i g)≤iT m:=by
 intro m i
 cases h:m[i]? with
 |none =>
  grind[List.set_eq_of_length_le]
 |some f =>
  have:=mQ (g:=g) h
  grind
def cR (ε:bw): Nat:=ε.2.2.waiting.length+iT ε.1.ai
theorem qJ : ε.2.2.waiting.length≤cR ε:=Nat.le_add_right _ _
theorem fW.count (I:fW π bY): iT bY.ai=iT π.ai:=by
 have:bY.ai.map (·.changed)=π.ai.map (·.changed):=by
  refine nC fun i => ?_
  rw[jv,jv]
  cases h:π.ai[i]? with
  |none =>
   have J:π.ai.length≤i:=by grind
   have:bY.ai[i]?=none:=by simp[I.len,J]
   rw[this]
  |some f =>
   obtain⟨t,ht⟩:=I.get i f h
   rw[ht];rfl
 simp only[iT,this]
theorem IE (h:(δ.dI n b).1≠0): (δ.dI n b).2.waiting=δ.waiting:=by
 unfold Dk.dI at h ⊢
 split
 ·rfl
 ·rename_i I
  split
  ·rfl
  ·rename_i J
   split
   ·rfl
   grind
theorem SV : cR (outF ε i).2≤cR ε:=by
 grind[outF,cR,y9,IE,Ki,mQ]
theorem zJ {f:Fm}: iT (dz π i f).ai≤iT π.ai:=Dv rfl
theorem fX.cR (J:fX ε n e b aj): Am.cR aj≤Am.cR ε:=by
 have rS:∀ {bY:Pl},fW ε.1 bY→∀i,Am.cR (outF (bY,ε.2) i).2≤Am.cR ε:=fun {bY} I i=>by
  have:=SV (ε:=(bY,ε.2)) (i:=i)
  refine cX this ?_
  simp only[Am.cR,I.count]
  exact aM _
 cases J with
 |arg _=>simp
 |Gc i f h1 h2 hl hf =>
  grind[mQ,Am.cR]
 |out bY i f h1 h2 hl I hf hh he=>grind
 |read bY i f h1 h2 hl I hf hh he J=>exact cX (Aq zJ _) (rS I i)
 |bad bY i f h1 h2 hl I hf hh he J hc=>exact cX (Aq zJ _) (rS I i)
 |load bY i f h1 h2 hl I hf hh he J hc=>exact cX (Aq (cX (Dv rfl) zJ) _) (rS I i)
theorem Dw : iT (unpinF π n).2.ai=iT π.ai:=by
 grind[unpinF,mQ]
theorem mW.cR (I:mW ε n e b aj): Am.cR aj≤Am.cR ε:=by
 cases I with
 |dead _=>simp
 |kr e b aj J I he=>exact I.cR
 |xg b aj J I he=>have:=I.cR;grind[Am.cR,Dw]
 |read b aj J I he=>have:=I.cR;grind[Am.cR,Dw]
theorem GRd.cR {b_:Bool}(I:GRd ε now b_ n e b aj): Am.cR aj≤Am.cR ε:=by
 cases I with
 |arg _=>simp
 |b_ _ _ _=>simp
 |own _ _ _ _ _=>simp
 |read e b aj J h2 h3 hl I=>exact I.cR
theorem tO.cR {b_:Bool}(I:tO ε now b_ n b e bH aj): Am.cR aj≤Am.cR ε:=by
 cases I with
 |may e c aj I he=>exact I.cR
 |bad c aj I J=>exact I.cR
 |done c aj I J=>exact I.cR
inductive kV (now:List (Int×List Nat)): List Int→bw→Int→List eE→bw→Prop where
 |nil (ε:bw):kV now [] ε 0 [] ε
 |err (n:Int) (l:List Int) (ε:bw) (e:Int) (b:List Nat) (aj:bw) (hr:mW ε n e b aj) (he:e≠0):kV now (n::l) ε e [] aj
 |part (n:Int) (l:List Int) (ε:bw) (was b:List Nat) (aj:bw) (c:List eE) (e:Int) (cs:List eE) (mD:bw) (hr:mW ε n 0 was aj) (hb:lookL n now=some b) (hd:(lookL n aj.1.dh).isSome=true) (hc:PR n was b c) (hl:c.length≤512) (ht:kV now l aj e cs mD):kV now (n::l) ε e (c++cs) mD
 |whole (n:Int) (l:List Int) (ε:bw) (was b:List Nat) (aj:bw) (e:Int) (cs:List eE) (mD:bw) (hr:mW ε n 0 was aj) (hb:lookL n now=some b) (hd:(lookL n aj.1.dh).isSome=false) (ht:kV now l aj e cs mD):kV now (n::l) ε e (⟨n,0,true,b⟩::cs) mD
theorem kV.ou {l:List Int}{cs:List eE}(I:kV now l ε e cs aj)(h:jG ε): jG aj:=by
 induction I with
 |nil ε=>exact h
 |err n l ε e b aj I he=>exact I.ou h
 |part n l ε was b aj c e cs J I hb hd hc hl ht ih=>exact ih (I.ou h)
 |whole n l ε was b aj e cs J I hb hd ht ih=>exact ih (I.ou h)
theorem kV.cR {l:List Int}{cs:List eE}(I:kV now l ε e cs aj): Am.cR aj≤Am.cR ε:=by
 induction I with
 |nil ε=>simp
 |err n l ε e b aj I he=>exact I.cR
 |part n l ε was b aj c e cs J I hb hd hc hl ht ih=>exact cX ih I.cR
 |whole n l ε was b aj e cs J I hb hd ht ih=>exact cX ih I.cR
theorem xm {b:Nat}{v:V}(I:look E a=some v)(J:look E b=some w): resLE P E h [.tmp a,.tmp b]=some (.aW [v,w]):=by grind[resLE,mapO,resE]
section
variable {told:cy} {p:Nat} {op v:V} {b_:Bool}
theorem Cb (I:W told)(s:Sat h S): Call ⟨Tryz.prog,told⟩ 62 [.map id] h fun v h'=>∃b,v=.fn (.func 144) [] [.ptr b 0]∧Sat h' (pt b (.cells 1 [.map id] false)::S):=by
 refine Call.of_wp (I.free _ rfl) Tryz.func62 rfl rfl (zg rfl ?_)
 refine aA.cB s rfl rfl rfl (fH rfl rfl) (fun p1 h s => ?_)
 exact zk 4 rfl (zo rfl (G0 rfl rfl) (zk 2 rfl (WP.ret ⟨aa,_,rfl,_,rfl,s⟩)))
theorem PT (I:W told)(s:Sat h (gO g a now b_::S))(hm:now.length≤1048576)(hk:∀n∈now.map (·.1),(Lit.int .i64 n).wf=true):
  Call ⟨Tryz.prog,told⟩ 136 [.ptr g 0] h fun v h'=>Sat h' (.arr 1 v (iF (fy now))::gO g a now b_::S):=by
 obtain⟨nv,s⟩:=eH.1 s
 obtain⟨J,rfl⟩:=Ia s (j:=1) rfl
 refine Call.of_wp (I.free _ rfl) Tryz.func136 rfl rfl (zK 8 rfl (zY s 0 qB oB rfl (zc rfl (Cb I s) ?_)))
 rintro v h ⟨b,rfl,s⟩
 refine zc rfl (zD I (s.ae [0,1]) (by decide) hm hk) ?_
 intro kv h s
 exact zk 2 rfl (WP.ret ⟨aa,_,rfl,(eH.2 ⟨.map J,(s.ae [3,2,0]).del 3⟩).ae [1]⟩)
noncomputable def cgL : Code:=cE [1,1,0,1,0,0] ((Tryz.f58.body).getD .skip)
theorem IF (hT:W told){ks:List Int}(UK:ks.length≤65536)(zP:∀n∈ks,(lookL n now).isSome=true)(u_:∀e∈now,e.2.length=512): ∀(j i:Nat) (acc:List eE) (av:V) (cs:List V) (ε:bw) (h:H) (E:List (Nat×V)) (Q:Ex→List (Nat×V)→H→Prop),i+j=ks.length →
  jG ε→cR ε≤268435456→acc.length≤512*i →
  Sat h (.arr 4 av cs::ew cs acc::gO g a now b_::fA a p q r op data bA::e_ r p q ε.1::cM q p ε.2.1::bM p ε.2.2::.arr 1 kv (iF ks)::S) →
  Has E [(0,.ptr g 0),(4,av),(13,kv),(14,.int .i64 ks.length),(15,.int .i64 i)] →
  (∀e c aj E' h',kV now (ks.drop i) ε e c aj→e≠0→look E' 2=some .aV→look E' 3=some (.int .i64 e)→Sat h' (gO g a now b_::fA a p q r op data bA::e_ r p q aj.1::cM q p aj.2.1::bM p aj.2.2::S)→Q .ret E' h') →
  (∀c aj E' h' uB cs',kV now (ks.drop i) ε 0 c aj→acc.length+c.length≤512*ks.length→Has E' [(4,uB)]→Sat h' (.arr 4 uB cs'::ew cs' (acc++c)::gO g a now b_::fA a p q r op data bA::e_ r p q aj.1::cM q p aj.2.1::bM p aj.2.2::S)→Q (.exit 0) E' h') →
  WP ⟨Tryz.prog,told⟩ 65 (.loop cgL) E h Q:=by
 intro j
 induction j with
 |zero =>
  intro i acc av cs ε h E Q hj dL hw YS s hE hr hx
  refine WP.loop (WP.has hE (zg rfl (zC rfl aL (by grind) ?_)))
  refine zk 3 rfl (WP.exit ?_)
  rw[nA (by omega)] at hx
  have s1:=s.del 7
  dsimp only[aT] at s1
  refine hx [] ε _ _ av cs (.nil ε) (by grind) ⟨rfl,aa⟩ ?_
  rw[g_]
  exact s1
 |succ j ih =>
  intro i acc av cs ε h E Q hj dL hw YS s hE hr hx
  have hn:ks[i]?=some (ks[i]'(by omega)):=aG _
  have uV:ks[i]'(by omega)∈ks:=Aw _
  have sB:ks.drop i=ks[i]'(by omega)::ks.drop (i+1):=mF (by omega)
  generalize (ks[i]'(by omega))=n at hn uV sB
  have hc:(iF ks)[i]?=some (.int .i64 n):=by simp[iF,hn]
  obtain⟨b,hb⟩:=Option.isSome_iff_exists.1 (zP n uV)
  have G7:=u_ _ (mc hb)
  simp only at G7
  rw[sB] at hr hx
  obtain⟨id,off,e1,e2⟩:=jg (P:=Tryz.prog) s (k:=7) rfl hc cC jO
  refine WP.loop (WP.has hE (zg rfl (zB rfl aL (by grind) ?_)))
  refine zk 5 rfl (WP.block (zg rfl (zo rfl (bx (r:=.ptr id off) rfl rfl e1) (zl rfl (e2 _ bZ) ?_))))
  obtain⟨nv,s⟩:=eH.1 (s.ae [2])
  dsimp only[bringA,getA,aT] at s
  refine zk 6 rfl (zY s 0 o7 yM rfl (zm rfl (zc rfl (B9 (n:=n) hT (s.ae [4,4,4,4]) dL.ok dL.pins (cX qJ hw)) ?_)))
  rintro v h ⟨e,w,aj,J,(⟨he,rfl,s⟩|⟨rfl,u,rfl,s⟩)⟩
  ·dsimp only[bringA,getA,aT] at s
   refine zk 10 rfl (zB rfl aN (by grind) ?_)
   refine zk 8 rfl (WP.ret (hr e [] aj _ _ (.err n _ ε e w aj J he) he rfl rfl ?_))
   have s:=eH.2 ⟨nv,s.ae [4,4]⟩
   dsimp only[bringA,getA,aT] at s
   exact((s.del 7).del 6).del 5
  ·dsimp only[bringA,getA,aT] at s
   have BL:=J.ou dL
   have rq:=cX J.cR hw
   have hlen:=J.len dL
   refine zk 10 rfl (zC rfl aN (rfl) ?_)
   have s:=s.fD
   have s:=s.ae [5,5,1,1,1,1,1,1,1,0]
   dsimp only[bringA,getA,aT] at s
   rcases l_ (n:=n) (fun _ _=>aJ.bK _ _) (s.ae [1]) rD bP k8 with⟨g1,g2,_⟩|⟨nw,b',g1,_,g2,s2⟩
   ·grind
   rw[hb] at g1
   have:=bp g1
   subst this
   refine zk 7 rfl (zY s 0 qB oB rfl (zm rfl (zo rfl (jo rfl rfl g2) ?_)))
   obtain⟨dv,s⟩:=dB.1 (s2.ae [3])
   dsimp only[bringA,getA,aT] at s
   have s:=s.ae [4]
   dsimp only[bringA,getA,aT] at s
   refine zk 6 rfl (zY s 0 o7 yM rfl (zn rfl (zY s 1 sS AY rfl (zm rfl (zc rfl (YQ (n:=n) hT (s.ae [5])) ?_)))))
   rintro v h ⟨rfl,s⟩
   dsimp only[bringA,getA,aT] at s
   refine zk 10 rfl ?_
   cases hd:(lookL n aj.1.dh).isSome with
   |true =>
    refine zK 6 rfl (zc rfl (PS hT (u:=u) (v:=nw) (pg:=n) (s.ae [11,4]) (aY _ _) (aY _ _) hlen G7) ?_)
    rintro rv h ⟨YT,c,hc,ff,s⟩
    dsimp only[bringA,getA,aT] at s
    obtain⟨i1,eT,gC,om⟩:=Ca
    have abW:cs.length=acc.length*4:=by
     obtain⟨a,b,q1,q2,q3⟩:=s.at (k:=12) rfl
     exact qG q3
    have adC:YT.length=c.length*4:=by
     obtain⟨a,b,q1,q2,q3⟩:=s.at (k:=1) rfl
     exact qG q3
    obtain⟨uB,h2,qb,s2⟩:=gK (s.ae [11,0]) j7 eT uq gC (by omega) rfl (by decide) (by omega)
    dsimp only[bringA,getA,aT] at s2
    refine aA.any rfl rfl rfl (OpR.of (R:=fun v h'=>v=uB∧h'=h2) (iG rfl rfl qb) ⟨rfl,rfl⟩) ?_
    rintro v' h' ⟨rfl,rfl⟩
    refine za rfl (zv (zr rfl (zb rfl (by exact aO (ay (by omega) (by omega))) ?_)))
    refine zm rfl (zv ?_)
    have s3:Sat _ (ew cs acc::ew YT c::_):=s2.ae [12,2]
    have s4:=s3.two (C:=ew (cs++YT) (acc++c)) (aJ.qo _ _) (aJ.qo _ _) fun a b q1 q2=>B6 q1 q2
    dsimp only[bringA,getA,aT] at s4
    have s5:=dB.2 ⟨dv,s4.ae [7,7]⟩
    dsimp only[bringA,getA,aT] at s5
    have s6:=eH.2 ⟨nv,s5.ae [7,7]⟩
    dsimp only[bringA,getA,aT] at s6
    have s7:=(((s6.ae [3,2,0,0,3,3,3,3]).del 10).del 9).del 8
    dsimp only[bringA,getA,aT] at s7
    refine ih (i+1) (acc++c) _ _ aj _ _ Q (by omega) BL rq (by grind) s7 ⟨rfl,rfl,rfl,rfl,rfl,aa⟩ (fun e c' I E' h' ht he l2 l3 s' => ?_) (fun c' I E' h' SW SX ht hl fh s' => ?_)
    ·exact hr e _ I E' h' (.part n _ ε w b aj c e c' I J hb hd hc ff ht) he l2 l3 s'
    ·refine hx (c++c') I E' h' SW SX (.part n _ ε w b aj c 0 c' I J hb hd hc ff ht) (by grind) fh ?_<;>grind
   |false =>
    refine zK 5 rfl (zc rfl (sA hT (s.ae [4]) (aY _ _) (by omega)) ?_)
    intro cw h s
    dsimp only[bringA,getA,aT] at s
    obtain⟨wid,_,Ni,_,rfl,_⟩:=s.dP (by omega)
    have s:=s.fD
    refine zo rfl (cP rfl (by rw[MS];rfl)) ?_
    obtain⟨rv,h1,zH,s1⟩:=jB (P:=Tryz.prog) (k:=4) (x:=.agg [.int .i64 n,.int .i64 0,.bool true,.sl wid 0 b.length Ni]) s j7 uq A2 rfl (by decide) (by decide) rfl rfl
    dsimp only[V.cells] at s1
    refine aA.any rfl rfl rfl (OpR.of (R:=fun v h'=>v=rv∧h'=h1) (gI rfl zH) ⟨rfl,rfl⟩) ?_
    rintro v' h' ⟨rfl,rfl⟩
    obtain⟨i1,eT,gC,om⟩:=Ca
    have abW:cs.length=acc.length*4:=by
     obtain⟨a,b,q1,q2,q3⟩:=s1.at (k:=11) rfl
     exact qG q3
    obtain⟨uB,h2,qb,s2⟩:=gK (s1.ae [10,0]) j7 eT uq gC (by omega) rfl (by decide) (by grind)
    dsimp only[bringA,getA,aT] at s2
    refine aA.any rfl rfl rfl (OpR.of (R:=fun v h'=>v=uB∧h'=h2) (iG rfl rfl qb) ⟨rfl,rfl⟩) ?_
    rintro v' h' ⟨rfl,rfl⟩
    refine za rfl (zv (zr rfl (zb rfl (by exact aO (ay (by omega) (by omega))) ?_)))
    refine zm rfl (zv ?_)
    have s3:Sat _ (ew cs acc::.bK (.sl wid 0 b.length Ni) b::_):=s2.ae [11,2]
    have s4:=s3.two (C:=ew (cs++[.int .i64 n,.int .i64 0,.bool true,.sl wid 0 b.length Ni]) (acc++[⟨n,0,true,b⟩])) (aJ.qo _ _) (aJ.bK _ _) fun a b q1 q2=>B6 q1 ⟨⟨⟨rfl,rfl,rfl⟩,q2⟩,aa⟩
    have s5:=dB.2 ⟨dv,s4.ae [6,6]⟩
    have s6:=eH.2 ⟨nv,s5.ae [6,6]⟩
    have s7:=(((s6.ae [3,2,0,0,2,2,2,2]).del 10).del 9).del 8
    dsimp only[bringA,getA,aT] at s7
    refine ih (i+1) (acc++[⟨n,0,true,b⟩]) _ _ aj _ _ Q (by omega) BL rq (by grind) s7 ⟨rfl,rfl,rfl,rfl,rfl,aa⟩ (fun e c' I E' h' ht he l2 l3 s' => ?_) (fun c' I E' h' SW SX ht hl fh s' => ?_)
    ·exact hr e _ I E' h' (.whole n _ ε w b aj e c' I J hb hd ht) he l2 l3 s'
    ·refine hx (⟨n,0,true,b⟩::c') I E' h' SW SX (.whole n _ ε w b aj 0 c' I J hb hd ht) (by grind) fh ?_<;>grind
theorem Nj (J:W told)(s:Sat h (gO g a now b_::fA a p q r op data bA::e_ r p q ε.1::cM q p ε.2.1::bM p ε.2.2::S))(dL:jG ε)(hw:cR ε≤268435456)(I:∀e∈now,e.2.length=512)(hm:now.length≤65536)(hk:∀n∈now.map (·.1),(Lit.int .i64 n).wf=true):
  Call ⟨Tryz.prog,told⟩ 58 [.ptr g 0] h fun v h'=>∃e c aj,kV now (fy now) ε e c aj ∧
   ((e≠0∧v=.aW [.aV,.int .i64 e]∧Sat h' (gO g a now b_::fA a p q r op data bA::e_ r p q aj.1::cM q p aj.2.1::bM p aj.2.2::S)) ∨
    (e=0∧c.length≤33554432∧∃av cs,v=.aW [av,.int .i64 0]∧Sat h' (.arr 4 av cs::ew cs c::gO g a now b_::fA a p q r op data bA::e_ r p q aj.1::cM q p aj.2.1::bM p aj.2.2::S))):=by
 have hl:(fy now).length=now.length:=by rw[fy,(gX _).length_eq,cq]
 refine Call.of_wp (J.free _ rfl) Tryz.func58 rfl rfl (zK 13 rfl (zc rfl (PT J s (by omega) hk) ?_))
 intro kv h s
 refine zo rfl (aC rfl rfl rfl (s.eY (n:=(fy now).length) (j:=0) rfl (by simp[iF]) (by decide) cC)) ?_
 refine zk 2 rfl (WP.block ?_)
 have s1:=(((s.fq aa).kS (k:=4)).dG fun a b q=>q).ae [0,0,1,1,1,1,1,0]
 refine IF J (ks:=fy now) (now:=now) (by omega) (fun n hn => ?_) I (fy now).length 0 [] .aV [] ε _ _ _ (by omega) dL hw (by simp) s1 ⟨rfl,rfl,rfl,rfl,rfl,aa⟩ (fun e c aj E' h' hr he l2 l3 s' => ?_) (fun c aj E' h' av cs hr ff fh s' => ?_)
 ·have:n∈now.map (·.1):=(gX _).mem_iff.1 hn
  cases hq:lookL n now<;>grind[sx]
 ·exact⟨aa,_,xm l2 l3,e,c,aj,hr,.inl ⟨he,rfl,s'⟩⟩
 ·have s:=s'
  exact WP.has fh (zK 6 rfl (WP.ret ⟨aa,_,rfl,0,c,aj,hr,.inr ⟨rfl,by omega,_,_,rfl,s⟩⟩))
end
theorem zQ {n:Nat}(I:b7 b=true): (dK b n).length=512:=by
 have J:=wZ (n:=n) (iR I)
 rw[dK,bL (by rw[dH];omega),J]
def jk (π:Pl)(n:Int)(b:List Nat)(bf:Nat): Int×Pl :=
 (if (k9 π n b bf).1=0 then(unpinF (k9 π n b bf).2 n).1 else(k9 π n b bf).1,(unpinF (k9 π n b bf).2 n).2)
def Fc (π:Pl)(n:Int)(i:Nat)(f:Fm)(b:List Nat)(bf:Nat): Pl :=
 { π with ai:=π.ai.set i { f with b:=dK b bf,changed:=true,pins:=0 },dh:=cY n (mC π n bf,true) π.dh }
theorem Dx {f:Fm}(J:lookL n π.bJ=some (i:Int))(I:π.ai[i]?=some f)(hp:f.pins=1)(hg:b7 b=true): jk π n b bf=(0,Fc π n i f b bf):=by
 have h1:=(tN J I hp).1
 have hi:=(List.getElem?_eq_some_iff.1 I).1
 have e1:k9 π n b bf=(0,{ π with ai:=π.ai.set i { f with b:=dK b bf,changed:=true },dh:=cY n (mC π n bf,true) π.dh }):=by
  simp only[k9,h1,I,hg,Bool.true_eq_false,fF]
 have e2:=(tN (π:={ π with ai:=π.ai.set i { f with b:=dK b bf,changed:=true },dh:=cY n (mC π n bf,true) π.dh }) (n:=n) (f:={ f with b:=dK b bf,changed:=true }) J (iX hi) hp).2
 simp only[jk,e1,e2,cT,List.set_set]
 rfl
theorem PU {f:Fm}(J:lookL n π.bJ=some (i:Int))(I:π.ai[i]?=some f)(hp:f.pins=1)(hg:b7 b=false): jk π n b bf=(4,{ π with ai:=π.ai.set i { f with pins:=0 } }):=by
 have h1:=(tN J I hp).1
 have e1:k9 π n b bf=(4,π):=by simp only[k9,h1,I,hg,cT]
 have e2:=(tN J I hp).2
 simp only[jk,e1,e2]
 rfl
theorem Wj (h:π.Ok): (k9 π n b bf).2.Ok:=by
 unfold k9
 split
 ·exact h
 ·split
  ·exact h
  ·rename_i f J
   have hm:=aR J
   split
   ·exact h
   ·rename_i I
    have I:b7 b=true:=by simpa using I
    exact h.set h.bJ (by simp only[zQ I];omega) (h.pins f hm)
theorem fX.put (hr:fX ε n 0 b0 aj)(h:jG ε): jG ((jk aj.1 n b bf).2,aj.2)∧Am.cR ((jk aj.1 n b bf).2,aj.2)≤Am.cR ε+1∧(b7 b=true→(jk aj.1 n b bf).1=0):=by
 have I:=hr.ok h.ok h.pins
 have J:=(hr.full h.ok.dk h.full).1
 obtain⟨i,f,h1,h2,h3,h4,h5⟩:=hr.at h.pins
 have hm:=aR h2
 have zR:=hr.cR
 cases hg:b7 b with
 |true =>
  rw[Dx h1 h2 h3 hg]
  refine⟨⟨⟨I.pl.set I.pl.bJ (by simp only[zQ hg];omega) (by simp),I.lg,I.dk⟩,h5 _ rfl,J.set h2 rfl fun _=>zQ hg⟩,?_,fun _=>rfl⟩
  have h6:=mQ (g:={ f with b:=dK b bf,changed:=true,pins:=0 }) h2
  simp only[Bool.toNat_true] at h6
  simp only[Am.cR,Fc] at zR ⊢
  omega
 |false =>
  rw[PU h1 h2 h3 hg]
  refine⟨⟨⟨I.pl.set I.pl.bJ (I.pl.len f hm) (by simp),I.lg,I.dk⟩,h5 _ rfl,J.set h2 rfl fun hl=>hl⟩,?_,fun h=>by cases h⟩
  have h6:=mQ (g:={ f with pins:=0 }) h2
  simp only[Am.cR] at zR h6 ⊢
  omega
inductive PtR (now:List (Int×List Nat))(bf:Nat): List Int→bw→Int→bw→Prop where
 |nil (ε:bw):PtR now bf [] ε 0 ε
 |kr (n:Int) (l:List Int) (ε:bw) (e:Int) (b:List Nat) (aj:bw) (hr:fX ε n e b aj) (he:e≠0):PtR now bf (n::l) ε e aj
 |bad (n:Int) (l:List Int) (ε:bw) (b0 b:List Nat) (aj:bw) (hr:fX ε n 0 b0 aj) (hb:lookL n now=some b) (he:(jk aj.1 n b bf).1≠0):PtR now bf (n::l) ε (jk aj.1 n b bf).1 ((jk aj.1 n b bf).2,aj.2)
 |put (n:Int) (l:List Int) (ε:bw) (b0 b:List Nat) (aj:bw) (e:Int) (mD:bw) (hr:fX ε n 0 b0 aj) (hb:lookL n now=some b) (he:(jk aj.1 n b bf).1=0) (ht:PtR now bf l ((jk aj.1 n b bf).2,aj.2) e mD):PtR now bf (n::l) ε e mD
theorem PtR.ou {l:List Int}(I:PtR now bf l ε e aj)(h:jG ε): jG aj:=by
 induction I with
 |nil ε=>exact h
 |kr n l ε e b aj I he=>exact⟨I.ok h.ok h.pins,I.Lt he h.pins,(I.full h.ok.dk h.full).1⟩
 |bad n l ε b0 b aj I hb he=>exact(I.put h).1
 |put n l ε b0 b aj e J I hb he ht ih=>exact ih (I.put h).1
theorem PtR.cR {l:List Int}(I:PtR now bf l ε e aj)(h:jG ε): Am.cR aj≤Am.cR ε+l.length:=by
 induction I with
 |nil ε=>exact aM _
 |kr n l ε e b aj I he=>have:=I.cR;omega
 |bad n l ε b0 b aj I hb he=>have:=(I.put (b:=b) (bf:=bf) h).2.1;simp only[aZ];omega
 |put n l ε b0 b aj e J I hb he ht ih=>have h1:=ih (I.put h).1;have:=(I.put (b:=b) (bf:=bf) h).2.1;simp only[aZ];omega
theorem aaV {c:Nat}{es:iu}{kt et:TypeId}{k:IntKind}{z:V}(J:T.get h.tr id=some (.map (es.map Pe) c))(he:lookE n es=some u)(hu:Tryz.prog.underlying t=some (.map kt et))(hk:Tryz.prog.underlying kt=some (.int k))(hz:zeroT Tryz.prog et=some z):
  eU Tryz.prog h t (.map id) (.int .i64 n) false=some u:=by
 have hi:=rB (n:=n) es 0
 simp only[eU,lookupV,hu,hk,hz,J,keyBeq,dO,ag,vZ]
 cases I:idxE n es 0 with
 |none=>rw[I] at hi;rw[he] at hi;cases hi
 |some q=>rw[I] at hi;rw[he] at hi;obtain⟨j,w⟩:=q;have:=bp hi;simp only at this;subst this;rfl
section
variable {told:cy} {p:Nat} {op v:V} {b_:Bool}
noncomputable def dnL : Code:=cE [1,1,1,1,1,1,1,1,0,1,0,0] ((Tryz.f18.body).getD .skip)
theorem PV (hT:W told){ks:List Int}{dv:V}{v_ c:Nat}{es:iu}(UK:ks.length≤65536)(zP:∀n∈ks,(lookL n now).isSome=true)(u_:∀e∈now,e.2.length=512): ∀(j i:Nat) (ε:bw) (h:H) (E:List (Nat×V)) (Q:Ex→List (Nat×V)→H→Prop),i+j=ks.length →
  jG ε→cR ε+j≤268435456 →
  Sat h (pt g (.cells 3 [.ptr a 0,.map v_,.bool b_] false)::H_ v_ es c::iH (fun v b=>.bK v b) es now::pt a (.cells 6 (Ls a p q r op dv bA) false)::e_ r p q ε.1::cM q p ε.2.1::bM p ε.2.2::.arr 1 kv (iF ks)::S) →
  Has E [(0,.ptr g 0),(6,.ptr a 0),(8,.int .u64 (bf:Int)),(73,kv),(74,.int .i64 ks.length),(75,.int .i64 i)] →
  (∀e aj E' h',PtR now bf (ks.drop i) ε e aj→e≠0→look E' 4=some (.int .u64 0)→look E' 5=some (.int .i64 e)→Sat h' (pt g (.cells 3 [.ptr a 0,.map v_,.bool b_] false)::H_ v_ es c::iH (fun v b=>.bK v b) es now::pt a (.cells 6 (Ls a p q r op dv bA) false)::e_ r p q aj.1::cM q p aj.2.1::bM p aj.2.2::S)→Q .ret E' h') →
  (∀aj E' h',PtR now bf (ks.drop i) ε 0 aj→Has E' [(8,.int .u64 (bf:Int))]→Sat h' (pt g (.cells 3 [.ptr a 0,.map v_,.bool b_] false)::H_ v_ es c::iH (fun v b=>.bK v b) es now::pt a (.cells 6 (Ls a p q r op dv bA) false)::e_ r p q aj.1::cM q p aj.2.1::bM p aj.2.2::S)→Q (.exit 1) E' h') →
  WP ⟨Tryz.prog,told⟩ 118 (.loop dnL) E h Q:=by
 intro j
 induction j with
 |zero =>
  intro i ε h E Q hj I hw s hE hr hx
  refine WP.loop (WP.has hE (zg rfl (zC rfl aL (by simp<;>omega) ?_)))
  refine zk 3 rfl (WP.exit ?_)
  rw[nA (by omega)] at hx
  exact hx ε _ _ (.nil ε) ⟨rfl,aa⟩ (s.del 7)
 |succ j ih =>
  intro i ε h E Q hj I hw s hE hr hx
  have hn:ks[i]?=some (ks[i]'(by omega)):=aG _
  have uV:ks[i]'(by omega)∈ks:=Aw _
  have sB:ks.drop i=ks[i]'(by omega)::ks.drop (i+1):=mF (by omega)
  generalize (ks[i]'(by omega))=n at hn uV sB
  have hc:(iF ks)[i]?=some (.int .i64 n):=by simp[iF,hn]
  obtain⟨b,hb⟩:=Option.isSome_iff_exists.1 (zP n uV)
  have G7:=u_ _ (mc hb)
  simp only at G7
  rw[sB] at hr hx
  obtain⟨id,off,e1,e2⟩:=jg (P:=Tryz.prog) s (k:=7) rfl hc cC jO
  refine WP.loop (WP.has hE (zg rfl (zB rfl aL (by simp<;>omega) ?_)))
  refine zk 5 rfl (WP.block (zg rfl (zo rfl (bx (r:=.ptr id off) rfl rfl e1) (zl rfl (e2 _ bZ) (zk 7 rfl (zY s 3 sS AY rfl (zm rfl (zc rfl (PJ (n:=n) hT (s.ae [4,4,4]) I.ok.pl I.pins I.ok.lg I.ok.dk (by have:=qJ (ε:=ε);omega)) ?_))))))))
  rintro v h ⟨e,b0,aj,Dy,(⟨he,rfl,s⟩|⟨rfl,u0,rfl,s⟩)⟩
  ·dsimp only[bringA,getA,aT] at s
   refine zk 9 rfl (zB rfl aN (by simp;exact he) ?_)
   exact zk 8 rfl (WP.ret (hr e aj _ _ (.kr n _ ε e b0 aj Dy he) he rfl rfl ((s.ae [3,3,3,3,0,0,0]).del 7)))
  ·dsimp only[bringA,getA,aT] at s
   have s:=s.drop
   have Cc:=Dy.put (b:=b) (bf:=bf) I
   have lB:=Dy.ok I.ok I.pins
   refine zk 9 rfl (zC rfl aN (rfl) (zk 4 rfl ?_))
   have s1:Sat h (iH (fun v b=>.bK v b) es now::_):=s.ae [5]
   obtain⟨_,_,_,_,q3⟩:=s1.at (k:=0) rfl
   rcases sy (n:=n) q3 with⟨_,q4⟩|⟨u,b',g1,g2,_⟩
   ·rw[hb] at q4;cases q4
   rw[hb] at g2
   have:=bp g2
   subst this
   have s2:=(s1.dup (aJ.Sn (fun _ _=>aJ.bK _ _) _ _)).dG (B:=.bK u b) fun a' b' h'=>by
    rcases sy (n:=n) h' with⟨_,q4⟩|⟨u',b'',g1',g2',g3'⟩
    ·rw[hb] at q4;cases q4
    ·rw[g1] at g1';rw[hb] at g2'
     have h5:=bp g1'
     have h6:=bp g2'
     subst h5;subst h6
     exact g3'
   dsimp only[bringA,getA,aT] at s2
   obtain⟨uid,adD,adE,rfl⟩:=gp (s2.aq (k:=0) rfl (aY _ _)) (by omega)
   have s:=s2.ae [2,0]
   dsimp only[bringA,getA,aT] at s
   have s0:=s
   refine WP.drawn [af,af,af,af,af,af,af,af,af,af,af,af,af,af] rfl (by kernel_rfl) (by kernel_rfl) ?_
   refine zM rfl (zN rfl (zF rfl (sS _ _) (zL rfl (s.ld (k:=7) rfl AY rfl) (zM rfl (zM rfl (zN rfl (zF rfl (qB _ _) (zL rfl (s.ld (k:=5) rfl oB rfl) (zM rfl (zO rfl (jo rfl rfl (aaV (s.row (k:=6) rfl) g1 rD bP k8)) (zM rfl (aE.any rfl rfl rfl rfl (OpR.call rfl rfl rfl rfl (Wd (n:=n) (bf:=bf) (b:=b) hT s (aY _ _) lB.pl (by omega))) ?_))))))))))))
   rintro v h ⟨rfl,s⟩
   refine zA rfl ?_
   refine aE.nil ⟨⟨aa,aa,aa,aa,aa,aa,aa,aa,aa,aa,aa,aa,aa,aa,aa⟩,?_⟩
   refine zK 5 rfl (zY s 7 sS AY rfl (zm rfl (zc rfl (Iz (n:=n) hT s (Wj lB.pl)) ?_)))
   rintro v h ⟨rfl,s⟩
   refine zk 5 rfl ?_
   by_cases hg:(k9 aj.1 n b bf).1=0
   ·have Lw:(jk aj.1 n b bf).1=(unpinF (k9 aj.1 n b bf).2 n).1:=by simp only[jk,hg,cT]
    have BM:(jk aj.1 n b bf).2=(unpinF (k9 aj.1 n b bf).2 n).2:=rfl
    rw[←Lw,←BM] at *
    refine zB rfl ej (by simp;exact hg) ?_
    refine zk 9 rfl ?_
    by_cases he:(jk aj.1 n b bf).1=0
    ·skip
     refine zC rfl aN (by simp;exact he) ?_
     refine zv (zj rfl (WP.skip (zr rfl (zb rfl (by exact aO (ay (by omega) (by omega))) ?_))))
     refine zm rfl (zv ?_)
     have s9:=(s.ae [5,5,2,4,0,1,1,1]).del 8
     refine ih (i+1) ((jk aj.1 n b bf).2,aj.2) _ _ Q (by omega) Cc.1 (by have h9:cR ((jk aj.1 n b bf).2,aj.2)≤cR ε+1:=Cc.2.1;omega) s9 ⟨rfl,rfl,rfl,rfl,rfl,rfl,aa⟩ (fun e J E' h' ht By l4 l5 s' => ?_) (fun J E' h' ht fh s' => ?_)
     ·exact hr e J E' h' (.put n _ ε b0 b aj e J Dy hb he ht) By l4 l5 s'
     ·exact hx J E' h' (.put n _ ε b0 b aj 0 J Dy hb he ht) fh s'
    ·skip
     refine zB rfl aN (by simp;exact he) ?_
     exact zk 8 rfl (WP.ret (hr _ _ _ _ (.bad n _ ε b0 b aj Dy hb he) he rfl rfl (((s.ae [5,5,2,4,0,1,1,1]).del 8).del 7)))
   ·have Lw:(jk aj.1 n b bf).1=(k9 aj.1 n b bf).1:=by simp only[jk,hg,fF]
    have BM:(jk aj.1 n b bf).2=(unpinF (k9 aj.1 n b bf).2 n).2:=rfl
    rw[←Lw] at hg
    refine zC rfl ej (by simp;rw[←Lw];exact hg) ?_
    refine zk 6 rfl (zB rfl aN (by simp;rw[←Lw];exact hg) ?_)
    refine zk 8 rfl (WP.ret (hr _ _ _ _ (.bad n _ ε b0 b aj Dy hb hg) hg rfl (by rw[Lw];rfl) ?_))
    exact((s.ae [5,5,2,4,0,1,1,1]).del 8).del 7
end
theorem xQ.fit {now:List Nat}{l:List eE}(J:xQ pg was now i l)(hn:now.length=512)(h0:0≤pg)(h1:pg<65536): ∀c∈l,c.Ok∧c.b.length≤512:=by
 induction J with
 |done i h=>intro c I;cases I
 |skip i l h he J ih=>exact ih
 |take i e l h2 h3 _ _ J ih =>
  intro c I
  rcases List.mem_cons.1 I with rfl|I
  ·have hl:((now.take e).drop i).length=e-i:=by simp;omega
   refine⟨⟨h0,h1,by simp,by simp only;omega,by simp only[hl];omega,by simp⟩,by simp only[hl];omega⟩
  ·exact ih c I
theorem PR.fit {now:List Nat}{l:List eE}(hr:PR pg was now l)(hn:now.length=512)(I:0≤pg)(J:pg<65536): ∀c∈l,c.Ok∧c.b.length≤512:=by
 obtain⟨m,h2,rfl⟩:=hr
 split
 ·intro c hc
  rw[List.mem_singleton.1 hc]
  exact⟨⟨I,J,by simp,by simp,by simp,by simp⟩,by simp⟩
 ·exact h2.fit hn I J
theorem kV.fit {l:List Int}{cs:List eE}(hr:kV now l ε e cs aj)(J:∀x∈now,x.2.length=512)(hl:∀n∈l,0≤n∧n<65536): ∀c∈cs,c.Ok∧c.b.length≤512:=by
 induction hr with
 |nil ε=>intro c hc;cases hc
 |err n l ε e b aj hr he=>intro c hc;cases hc
 |part n l ε was b aj c e cs mD hr hb hd hc ff ht ih =>
  intro x I
  have hn:=hl n bO
  rcases List.mem_append.1 I with I|I
  ·exact hc.fit (J _ (mc hb)) hn.1 hn.2 x I
  ·exact ih (fun m hm=>hl m (bR _ hm)) x I
 |whole n l ε was b aj e cs mD hr hb hd ht ih =>
  intro x I
  have hn:=hl n bO
  have hb:=J _ (mc hb)
  rcases List.mem_cons.1 I with rfl|I
  ·exact⟨⟨hn.1,hn.2,by simp,by simp,by simp only at hb ⊢;omega,fun _=>⟨rfl,hb⟩⟩,by simp only at hb ⊢;omega⟩
  ·exact ih (fun m hm=>hl m (bR _ hm)) x I
theorem uC : ∀(f n:Nat),(digits f n).length≤f+1:=by
 intro f
 induction f with
 |zero=>intro n;simp[digits]
 |succ f I =>
  intro n
  unfold digits
  split
  ·simp
  ·have:=I (n/128)
   simp only[aZ]
   omega
theorem YU {c:eE}(I:c.b.length≤512): (nh c).length≤543:=by
 have J:=uC 9 c.bE.toNat
 have h2:=uC 9 c.pos.toNat
 have h3:=uC 9 c.b.length
 simp only[nh,aX,aZ,bI]
 omega
theorem Wk : ∀ {l:List eE},(∀c∈l,c.b.length≤512)→(l.flatMap nh).length≤543*l.length:=by
 intro l
 induction l with
 |nil=>intro _;simp
 |cons c l I =>
  intro h
  have h1:=YU (h c bO)
  have h2:=I fun x J=>h x (bR _ J)
  simp only[fE,aX,aZ]
  omega
theorem Wl {l:List eE}(hl:l.length≤33554432)(h:∀c∈l,c.Ok∧c.b.length≤512)(J:tx<18446744073709551616)(UH:pv<18446744073709551616)(y8:nx<18446744073709551616)(hd:data.length≤35184372088832): Dr tx pv nx data l:=by
 have h2:=Wk fun c I=>(h c I).2
 refine⟨⟨by omega,fun c I=>by have:=(h c I).2;omega,fun c I => ?_⟩,J,UH,y8,by omega⟩
 have:=(h c I).1
 simp only[eE.Ok] at this
 omega
theorem SY {l:List eE}{kd:Int}(I:1≤kd∧kd≤9)(h:∀c∈l,c.Ok∧c.b.length≤512): gM kd l=true:=by
 simp only[gM,bF,i_,mJ]
 exact⟨I,fun c J=>(h c J).1⟩
inductive rH (ε:bw)(now:List (Int×List Nat))(kd:Int)(tx pv nx:Nat)(data:List Nat)(qq:Nat): Nat→Int→Bool→bw→Prop where
 |arg (h:¬(1≤kd∧kd≤7)∨0<qq):rH ε now kd tx pv nx data qq 0 1 false ε
 |dead (h1:1≤kd) (h2:kd≤7) (h3:qq=0) (h:ε.2.2.dead=true):rH ε now kd tx pv nx data qq 0 9 false ε
 |qo (e:Int) (c:List eE) (aj:bw) (h1:1≤kd) (h2:kd≤7) (h3:qq=0) (h:ε.2.2.dead=false) (hc:kV now (fy now) ε e c aj) (he:e≠0):rH ε now kd tx pv nx data qq 0 e false aj
 |app (c:List eE) (aj:bw) (h1:1≤kd) (h2:kd≤7) (h3:qq=0) (h:ε.2.2.dead=false) (hc:kV now (fy now) ε 0 c aj) (he:(bN aj.2 kd tx pv nx data c).1.2≠0):rH ε now kd tx pv nx data qq 0 (bN aj.2 kd tx pv nx data c).1.2 false (aj.1,(bN aj.2 kd tx pv nx data c).2)
 |put (c:List eE) (aj:bw) (e:Int) (mD:bw) (h1:1≤kd) (h2:kd≤7) (h3:qq=0) (h:ε.2.2.dead=false) (hc:kV now (fy now) ε 0 c aj) (ha:(bN aj.2 kd tx pv nx data c).1.2=0) (hp:PtR now (bN aj.2 kd tx pv nx data c).1.1 (fy now) (aj.1,(bN aj.2 kd tx pv nx data c).2) e mD) :
   rH ε now kd tx pv nx data qq (if e=0 then(bN aj.2 kd tx pv nx data c).1.1 else 0) e true mD
structure uD (ε aj:bw): Prop where
 base:aj.2.1.base=ε.2.1.base
 b:aj.2.1.b=ε.2.1.b
 cZ:aj.2.1.cZ=ε.2.1.cZ
 check:aj.2.1.check=ε.2.1.check
 log:aj.2.2.log=ε.2.2.log
 room:aj.2.2.room=ε.2.2.room
 bD:aj.2.2.bD=ε.2.2.bD
theorem uD.refl (ε:bw): uD ε ε:=⟨rfl,rfl,rfl,rfl,rfl,rfl,rfl⟩
theorem uD.trans {a b c:bw}(x:uD a b)(y:uD b c): uD a c :=
 ⟨y.base.trans x.base,y.b.trans x.b,y.cZ.trans x.cZ,y.check.trans x.check,y.log.trans x.log,y.room.trans x.room,y.bD.trans x.bD⟩
theorem nI : δ.iE.2.log=δ.log∧δ.iE.2.room=δ.room∧δ.iE.2.bD=δ.bD:=by
 unfold Dk.iE
 split
 ·simp
 ·split<;>exact⟨rfl,rfl,rfl⟩
theorem xn : (δ.dI n b).2.log=δ.log∧(δ.dI n b).2.room=δ.room∧(δ.dI n b).2.bD=δ.bD:=by
 unfold Dk.dI
 split
 ·simp
 ·split
  ·simp
  ·split<;>exact⟨rfl,rfl,rfl⟩
theorem IG {x:LD}{n:Nat}: uD (π,x) (π,(cr x n).2):=by
 unfold cr
 split
 ·exact uD.refl _
 ·split
  ·exact⟨rfl,rfl,rfl,rfl,nI.1,nI.2.1,nI.2.2⟩
  ·exact⟨rfl,rfl,rfl,rfl,nI.1,nI.2.1,nI.2.2⟩
theorem uD.to (h:uD ε aj): uD ε (π,aj.2):=⟨h.base,h.b,h.cZ,h.check,h.log,h.room,h.bD⟩
structure mq (R:LD→Prop): Prop where
 force:∀(x:LD) (n:Nat),R x→R (cr x n).2
 write:∀(x:LD) (n:Int) (b:List Nat),R x→R (x.1,(x.2.dI n b).2)
section
variable {b_:Bool} {l:List Int} {cs:List eE}
theorem mq.out (h:mq R)(I:R ε.2): R (outF ε i).2.2:=by
 unfold outF
 split
 ·exact I
 ·split
  ·exact I
  ·split
   ·exact I
   ·split
    ·exact h.force _ _ I
    ·split
     ·exact h.write _ _ _ (h.force _ _ I)
     ·exact h.write _ _ _ (h.force _ _ I)
theorem mq.kr (h:mq R)(I:fX ε n e b aj)(J:R ε.2): R aj.2:=by
 cases I<;>grind[out]
theorem mq.rd (h:mq R)(I:mW ε n e b aj)(J:R ε.2): R aj.2:=by
 cases I<;>grind[kr]
theorem mq.zT (h:mq R)(J:GRd ε now b_ n e b aj)(I:R ε.2): R aj.2:=by
 cases J with
 |arg hn=>exact I
 |b_ _ _ _=>exact I
 |own b h1 h2 _ hl=>exact I
 |read e b aj h1 h2 _ hl J=>exact h.rd J I
theorem mq.II (h:mq R)(I:tO ε now b_ n b e bH aj)(J:R ε.2): R aj.2:=by
 cases I with
 |may e c aj I he=>exact h.zT I J
 |bad c aj I hg=>exact h.zT I J
 |done c aj I hg=>exact h.zT I J
theorem mq.ch (h:mq R)(I:kV now l ε e cs aj): R ε.2→R aj.2:=by
 induction I with
 |nil ε=>simp
 |err n l ε e b aj I he=>exact h.rd I
 |part n l ε was b aj c e cs J I hb hd hc ff ht ih=>exact fun hx=>ih (h.rd I hx)
 |whole n l ε was b aj e cs J I hb hd ht ih=>exact fun hx=>ih (h.rd I hx)
theorem mq.pt (h:mq R)(I:PtR now bf l ε e aj): R ε.2→R aj.2:=by
 induction I<;>grind[kr]
theorem PW (ε:bw): mq fun y=>uD ε (ε.1,y) :=
 ⟨fun _ _ h=>h.trans IG,fun _ _ _ h=>h.trans ⟨rfl,rfl,rfl,rfl,xn.1,xn.2.1,xn.2.2⟩⟩
theorem kV.same (I:kV now l ε e cs aj): uD ε aj:=((PW ε).ch I (uD.refl ε)).to
end
theorem SZ {m:Nat}: ∀ {l:List Nat},l.Pairwise (· < ·)→(∀s∈l,s<m)→l.length≤m:=by
 intro l I J
 have key:∀(l:List Nat) (k:Nat),l.Pairwise (· < ·)→(∀s∈l,k≤s∧s<m)→k+l.length≤m∨l=[]:=by
  intro l
  induction l with
  |nil=>simp
  |cons x l ih =>
   intro k I J
   simp only[vu] at I
   have hx:=J x bO
   rcases ih (x+1) I.2 (fun s hs=>⟨I.1 s hs,(J s (bR _ hs)).2⟩) with h|rfl<;>grind
 rcases key l 0 I (fun s hs=>⟨eN _,J s hs⟩) with h|rfl
 ·omega
 ·simp
theorem lY (x:LD)(kd:Int)(tx pv nx:Nat)(data:List Nat)(c:List eE):
  (∃e:Int,e≠0∧((e=1∧gM kd c=false)∨(e=2∧1048576<(fO kd tx pv nx data c).length)∨(e=9∧x.2.dead=true)∨(e=7∧x.2.room<x.2.log.length+(gN x.1 kd tx pv nx data c).length))∧bN x kd tx pv nx data c=((0,e),x)) ∨
  (x.2.dead=false∧x.2.cn=0∧bN x kd tx pv nx data c=((0,9),(x.1,{ x.2.die with tail:=gN x.1 kd tx pv nx data c }))) ∨
  (gM kd c=true∧(fO kd tx pv nx data c).length≤1048576∧x.2.dead=false∧x.2.log.length+(gN x.1 kd tx pv nx data c).length≤x.2.room∧x.2.cn≠0 ∧
   bN x kd tx pv nx data c=((x.1.base+x.1.b.length,0),(x.1.app (gN x.1 kd tx pv nx data c),{ x.2.fg with log:=x.2.log++gN x.1 kd tx pv nx data c }))):=by
 by_cases I:gM kd c=false
 ·grind[bN]
 ·by_cases J:1048576<(fO kd tx pv nx data c).length
  ·grind[bN]
  ·by_cases hd:x.2.dead=true
   ·grind[Dk.qH,bN]
   grind[Dk.qH,bN]
theorem BN {x:LD}{kd:Int}{c:List eE}(J:x.1.Ok)(I:x.2.Ok)(hs:x.1.b=x.2.log)(hz:x.1.base+x.1.b.length+1048584≤1099511627776):
  (bN x kd tx pv nx data c).2.1.Ok∧(bN x kd tx pv nx data c).2.2.Ok∧(bN x kd tx pv nx data c).2.1.b=(bN x kd tx pv nx data c).2.2.log∧(bN x kd tx pv nx data c).2.1.base=x.1.base∧(bN x kd tx pv nx data c).2.1.b.length≤x.1.b.length+1048584 ∧
  (bN x kd tx pv nx data c).2.2.waiting=x.2.waiting∧(bN x kd tx pv nx data c).1.1<1099511627776:=by
 have hlen:(gN x.1 kd tx pv nx data c).length=8+(fO kd tx pv nx data c).length:=w6 _ _
 rcases lY x kd tx pv nx data c with⟨e,_,_,h⟩|⟨hd,hf,h⟩|⟨hg,hb,hd,dN,hf,h⟩
 ·grind
 ·rw[h];exact⟨J,⟨I.cn,I.len,I.room,I.now,I.bD,I.fG,I.many⟩,hs,rfl,Nat.le_add_right _ _,rfl,by simp⟩
 ·rw[h]
  generalize gN x.1 kd tx pv nx data c=rc at hlen dN
  have adh:=I.room
  have iI:x.1.b.length=x.2.log.length:=by rw[hs]
  have hl:(x.1.b++rc).length=x.1.b.length+rc.length:=aX
  have iq:(x.2.log++rc).length=x.2.log.length+rc.length:=aX
  refine⟨⟨?_,?_,?_,?_,?_,?_,J.check⟩,⟨I.fg.cn,?_,I.room,I.now,I.bD,?_,I.many⟩,?_,rfl,?_,rfl,?_⟩
  ·show x.1.base+(x.1.b++rc).length≤_;omega
  ·have h1:=SZ J.E8 J.low
   show(x.1.cZ++[x.1.b.length]).length≤_
   grind
  ·intro s hm
   show s<(x.1.b++rc).length
   rcases List.mem_append.1 (show s∈x.1.cZ++[x.1.b.length] from hm) with hm|hm
   ·have:=J.low s hm;omega
   ·grind
  ·show(x.1.cZ++[x.1.b.length]).Pairwise (·< ·)
   rw[vo]
   refine⟨J.E8,List.pairwise_singleton _ _,fun a ha b hb => ?_⟩
   rw[List.mem_singleton.1 hb]
   exact J.low a ha
  ·have:=J.forced
   show x.1.forced≤(x.1.b++rc).length;omega
  ·show(x.1.b++rc).length≤_;omega
  ·grind
  ·have:=I.fG
   show x.2.fG≤(x.2.log++rc).length;omega
  ·show x.1.b++rc=x.2.log++rc;rw[hs]
  ·show(x.1.b++rc).length≤_;omega
  ·grind
theorem wf_i64 (I:0≤n)(J:n<4294967296): (Lit.int .i64 n).wf=true:=by
 simp only[Lit.wf,bF,i_]
 have e1:IntKind.min .i64 = -9223372036854775808:=rfl
 have e2:IntKind.max .i64=9223372036854775807:=rfl
 omega
theorem Wm {kd:Int}{ch:V}(I:dt.beq dt=true)(J:ch.beq ch=true): (V.agg (nM kd tx pv nx dt ch)).beq (V.agg (nM kd tx pv nx dt ch))=true:=by
 simp only[nM,V.beq,V.beqL,I,J,dO,pX,AF,jc,ag]
section
variable {told:cy} {p:Nat} {op v:V} {b_:Bool}
theorem Wn (hT:W told){kd:Int}{qq:Nat}{ch:V}{ccs:List V}(s:Sat h (gO g a now false::fA a p q r (.ptr g 0) Nh bA::e_ r p q ε.1::cM q p ε.2.1::bM p ε.2.2::X::.arr 4 ch ccs::S))(hX:bX X (b5 dt data))(Pd:ccs.length=qq*4)(dL:jG ε)(hw:cR ε+65536≤268435456)
 (u_:∀e∈now,e.2.length=512)(hm:now.length≤65536)(hk:∀n∈now.map (·.1),0≤n∧n<65536)(Iv:tx<18446744073709551616)(UH:pv<18446744073709551616)(y8:nx<18446744073709551616)(hd:data.length≤35184372088832)(abX:ε.2.1.b=ε.2.2.log)(hz:ε.2.1.base+ε.2.1.b.length+1048584≤1099511627776):
  Call ⟨Tryz.prog,told⟩ 18 [.ptr g 0,.agg (nM kd tx pv nx dt ch)] h fun v h'=>∃bf e cl aj,rH ε now kd tx pv nx data qq bf e cl aj∧v=.aW [.int .u64 (bf:Int),.int .i64 e] ∧
   Sat h' (gO g a now cl::fA a p q r (cond cl .cU (.ptr g 0)) Nh bA::e_ r p q aj.1::cM q p aj.2.1::bM p aj.2.2::X::S):=by
 have mV:∀n∈now.map (·.1),(Lit.int .i64 n).wf=true:=fun n hn=>by
  have:=hk n hn
  exact wf_i64 (by omega) (by omega)
 have tL:=s.rQ (j:=6) rfl
 have xP:=s.aq (k:=5) rfl hX
 have lq:=yY (kd:=kd) (tx:=tx) (pv:=pv) (nx:=nx) xP.cells.2 tL.2.1
 have hlen:=s.eY (n:=qq) (j:=6) rfl Pd (by decide) j7
 have s0:=s
 obtain⟨nv,s⟩:=eH.1 s
 refine Call.of_wp (hT.free _ rfl) Tryz.func18 rfl rfl (zg rfl (aA.cB s rfl rfl rfl (fH rfl lq) ?_))
 intro p1 h s
 dsimp only[V.cells] at s
 have s:Sat h (pt p1 (.cells 6 (nM kd tx pv nx dt ch) false)::_):=s
 have hlen:=s.eY (n:=qq) (j:=8) rfl Pd (by decide) j7
 refine zk 7 rfl (zY s 1 o7 yM rfl (zk 3 rfl (WP.block (zK 4 rfl (zf rfl (AX _ _) (zh rfl (o_load rfl (s.ld (k:=1) rfl qn rfl)) (rfl) (zk 5 rfl (zY s 0 yN bZ rfl ?_))))))))
 have fin:∀e:Int,Sat h (gO g a now false::fA a p q r (.ptr g 0) Nh bA::e_ r p q ε.1::cM q p ε.2.1::bM p ε.2.2::X::S):=fun e=>((eH.2 ⟨nv,s.ae [1,1]⟩).del 7).del 1
 refine zd rfl (az rfl rfl aL) ?_ ?_
 ·intro hq
  have hq:kd<1:=by simpa using hq
  exact zk 19 rfl (WP.ret ⟨aa,_,rfl,0,1,false,ε,.arg (.inl (by omega)),rfl,fin 0⟩)
 ·intro hq
  have hq:1≤kd:=by simp at hq;omega
  refine zm rfl (zY s 0 yN bZ rfl ?_)
  refine zd rfl (az rfl rfl cL) ?_ ?_
  ·intro J
   have J:7<kd:=by simpa using J
   exact zk 15 rfl (WP.ret ⟨aa,_,rfl,0,1,false,ε,.arg (.inl (by omega)),rfl,fin 0⟩)
  ·intro J
   have J:kd≤7:=by simp at J;omega
   refine zk 2 rfl (zY s 0 tF ER rfl (zo rfl (aC rfl rfl rfl hlen) ?_))
   refine zd rfl (az rfl rfl cL) ?_ ?_
   ·intro I
    have I:0<qq:=by simp at I;omega
    exact zk 9 rfl (WP.ret ⟨aa,_,rfl,0,1,false,ε,.arg (.inr I),rfl,fin 0⟩)
   ·intro I
    have I:qq=0:=by simp at I;omega
    obtain⟨dv,s⟩:=dB.1 (s.ae [3])
    dsimp only[bringA,getA,aT] at s
    refine zk 8 rfl (zY s 0 AZ uX rfl (zc rfl (Io hT (s.ae [7])) ?_))
    rintro v h ⟨rfl,rfl⟩
    refine zk 2 rfl ?_
    cases Ht:ε.2.2.dead with
    |true =>
     refine zK 6 rfl (WP.ret ⟨aa,_,rfl,?_⟩)
     have s9:=eH.2 ⟨nv,(dB.2 ⟨dv,s⟩).ae [2,2]⟩
     dsimp only[bringA,getA,aT] at s9
     exact⟨0,9,false,ε,.dead hq J I Ht,rfl,(s9.del 7).del 2⟩
    |false =>
     refine zj rfl (WP.skip (zg rfl (za rfl (zv (zw (zg rfl (zm rfl ?_)))))))
     have s9:=eH.2 ⟨nv,(dB.2 ⟨dv,s⟩).ae [2,2]⟩
     dsimp only[bringA,getA,aT] at s9
     have s:=s9.ae [0,0,1,1,1]
     dsimp only[bringA,getA,aT] at s
     refine zc rfl (Nj hT s dL (by omega) u_ hm mV) ?_
     rintro v h ⟨e,c,aj,hc,(⟨he,rfl,s⟩|⟨rfl,ff,av,cs,rfl,s⟩)⟩
     ·refine aA.op rfl rfl rfl (bV rfl) ?_
      refine zk 2 rfl (zf rfl (tF _ _) ?_)
      refine zS rfl (by exact s.lu (k:=5) rfl Yj rfl (by decide) rfl rfl) (fun h s => ?_)
      dsimp only[nM,Nat.reduceAdd,List.set,setA] at s
      refine zk 5 rfl (zB rfl aN (by simp;exact he) ?_)
      exact zk 8 rfl (WP.ret ⟨aa,_,rfl,0,e,false,aj,.qo e c aj hq J I Ht hc he,rfl,(s.del 7).del 5⟩)
     ·have Lv:=s.rQ (j:=0) rfl
      have IJ:=hc.ou dL
      have hcp:=hc.cR
      have BH:=hc.same
      have YV:=BN (x:=aj.2) (kd:=kd) (tx:=tx) (pv:=pv) (nx:=nx) (data:=data) (c:=c) IJ.ok.lg IJ.ok.dk (by rw[BH.b,BH.log];exact abX) (by rw[BH.base,BH.b];exact hz)
      have dN:=hc.fit u_ fun n hn=>hk n ((gX _).mem_iff.1 hn)
      refine zk 3 rfl (zf rfl (tF _ _) (zS rfl (s.lu (k:=7) rfl Yj rfl (show 0+5<6 by decide) Lv.1 Lv.2.1) ?_))
      intro h s
      dsimp only[nM,Nat.reduceAdd,List.set,setA] at s
      refine zk 5 rfl (zC rfl aN (rfl) ?_)
      obtain⟨dv,s⟩:=dB.1 (s.ae [3])
      dsimp only[bringA,getA,aT] at s
      have s:=s.ae [6,6,7,2,2,0,3]
      dsimp only[bringA,getA,aT] at s
      refine zv (zj rfl (WP.skip (zw ?_)))
      have s0:=s
      have abY:=jZ xP
      have hrb:=Wm (kd:=kd) (tx:=tx) (pv:=pv) (nx:=nx) abY Lv.2.2
      refine WP.drawn [af,af,af,af,af,af,af,af,af,af,af] rfl (by kernel_rfl) (by kernel_rfl) ?_
      refine zM rfl (zN rfl (zF rfl (K4 _ _) (zL rfl (s.ld (k:=5) rfl Se rfl) (zL rfl (s.cg (k:=6) rfl ES wU) (aE.any rfl rfl rfl rfl (OpR.call rfl rfl rfl rfl (SF (kd:=kd) (tx:=tx) (pv:=pv) (nx:=nx) hT s hX (Wl ff dN Iv UH y8 hd) IJ.ok.lg IJ.ok.dk)) ?_)))))
      rintro v h ⟨rfl,s⟩
      refine zM rfl (zO rfl (gB rfl rfl) (zO rfl (gB rfl rfl) (zA rfl (zA rfl ?_))))
      refine aE.nil ⟨⟨aa,aa,aa,aa,aa,aa,aa,aa,aa,aa,aa,aa⟩,?_⟩
      refine zK 4 rfl ?_
      have s9:=dB.2 ⟨dv,s.ae [5,6]⟩
      have s:=((((s9.ae [7,0,6,0,0,0]).del 9).del 8).del 7).del 6
      by_cases he:(bN aj.2 kd tx pv nx data c).1.2=0
      ·skip
       refine zC rfl aN (by simp;exact he) ?_
       refine zk 6 rfl (zc rfl (PO hT s) ?_)
       rintro v h ⟨rfl,s⟩
       obtain⟨nv,s⟩:=eH.1 s
       obtain⟨v_,rfl⟩:=Ia s (j:=1) rfl
       refine zk 6 rfl (zY s 0 qB oB rfl (zc rfl (Cb hT s) ?_))
       rintro v h ⟨kb,rfl,s⟩
       refine zc rfl (zD hT (s.ae [0,1]) (by decide) (by omega) mV) ?_
       intro kv h s
       have hl:(fy now).length=now.length:=by rw[fy,(gX _).length_eq,cq]
       refine zo rfl (aC rfl rfl rfl (s.eY (n:=(fy now).length) (j:=0) rfl (by simp[iF]) (by decide) cC)) ?_
       refine zk 2 rfl (WP.block ?_)
       obtain⟨adF,es,clock,S1,hb,gW,s⟩:=uw.1 (s.ae [2])
       injection S1 with S1
       subst S1
       obtain⟨dv,s⟩:=dB.1 (s.ae [5])
       have s:=s.ae [6,2,2,0,3,3,3,1]
       refine PV (op:=.cU) (dv:=dv) hT (ks:=fy now) (now:=now) (bf:=(bN aj.2 kd tx pv nx data c).1.1) (by omega) (fun n hn => ?_) u_ (fy now).length 0 (aj.1,(bN aj.2 kd tx pv nx data c).2) _ _ _ (by omega) ?_ ?_ s ⟨rfl,rfl,rfl,rfl,rfl,rfl,aa⟩ (fun e mD E' h' hp By l4 l5 s' => ?_) (fun mD E' h' hp fh s' => ?_)
       ·have:n∈now.map (·.1):=(gX _).mem_iff.1 hn
        cases hq:lookL n now with
        |some _=>rfl
        |none=>exact absurd this (sx.1 hq)
       ·exact⟨⟨IJ.ok.pl,YV.1,YV.2.1⟩,IJ.pins,IJ.full⟩
       ·have e1:cR (aj.1,(bN aj.2 kd tx pv nx data c).2)=cR aj:=by simp only[cR,YV.2.2.2.2.2.1]
        rw[e1,hl];omega
       ·rw[eC] at hp
        have e4:look E' 4=some (.int .u64 ((0:Nat):Int)):=l4
        refine⟨aa,_,xm e4 l5,0,e,true,mD,?_,rfl,?_⟩
        ·have:=rH.put (data:=data) c aj e mD hq J I Ht hc he hp
         rwa [ax By] at this
        ·have s3:=dB.2 ⟨dv,s'.ae [3,6]⟩
         have s4:=uw.2 ⟨v_,es,clock,rfl,hb,gW,s3.ae [2,2]⟩
         exact eH.2 ⟨.map v_,(s4.ae [2,0,0,0,0,0,1]).del 7⟩
       ·rw[eC] at hp
        have s:=s'
        refine WP.has fh (zK 6 rfl (WP.ret ⟨aa,_,rfl,?_⟩))
        refine⟨_,0,true,mD,?_,rfl,?_⟩
        ·have:=rH.put (data:=data) c aj 0 mD hq J I Ht hc he hp
         exact this
        ·have s3:=dB.2 ⟨dv,s.ae [3,6]⟩
         have s4:=uw.2 ⟨v_,es,clock,rfl,hb,gW,s3.ae [2,2]⟩
         dsimp only[bringA,getA,aT] at s4
         exact eH.2 ⟨.map v_,(s4.ae [2,0,0,0,0,0,1]).del 7⟩
      ·skip
       refine zB rfl aN (by simp;exact he) ?_
       exact zk 8 rfl (WP.ret ⟨aa,_,rfl,0,_,false,_,.app c aj hq J I Ht hc he,rfl,s⟩)
end
def Lg.fresh : Lg:={ base:=1,b:=[],cZ:=[],forced:=0,check:=0 }
theorem UL {b c t:Nat}{p v:V}(I:look E a=some p)(J:loadV P h t p=some v)(h2:look E b=some w)(h3:look E c=some x): resLE P E h [.cell a t,.tmp b,.tmp c]=some (.aW [v,w,x]):=by
 simp only[resLE,mapO,resE,I,J,h2,h3]
section
variable {told:cy} {p:Nat} {op v:V} {b_:Bool}
theorem Kl (hT:W told)(s:Sat h (bM p δ::S))(hd:δ.dead=false)(hm:δ.mark=[])(hl:δ.log=[])(hc:δ.fG=0):
  Call ⟨Tryz.prog,told⟩ 104 [.ptr p 0] h fun v h'=>∃q,v=.aW [.ptr q 0,.int .i64 0]∧Sat h' (cM q p Lg.fresh::bM p δ::S):=by
 refine Call.of_wp (hT.free _ rfl) Tryz.func104 rfl rfl (zK 8 rfl (zc rfl (M5 hT s (by rw[hm];decide)) ?_))
 rintro v h (⟨I,_,_⟩|⟨_,b0,rfl,s⟩)
 ·rw[hd] at I;cases I
 rw[hm] at s
 refine zk 10 rfl (zC rfl aN (rfl) (zk 6 rfl (zo rfl (cP rfl (by rw[aav];rfl)) ?_)))
 refine aA.cB s rfl rfl rfl (fH rfl rfl) (fun p23 h s => ?_)
 dsimp only[V.cells,List.take,List.length_cons,List.length_nil,Nat.reduceAdd,List.drop,List.cons_append,List.nil_append] at s
 refine zk 7 rfl ?_
 have s:=s.ae [2,0,0]
 dsimp only[bringA,getA,aT] at s
 refine zc rfl (V0 hT s (by rw[hl];decide)) ?_
 rintro v h (⟨I,_,_⟩|⟨_,b1,rfl,s⟩)
 ·rw[hd] at I;cases I
 rw[hl] at s
 have hv:=(s.buf (k:=0) rfl).view.cells
 refine zk 4 rfl (zf rfl (lV _ _) (zS rfl (s.lu (k:=2) rfl eZ rfl (by decide) hv.1 hv.2) ?_))
 intro h s
 dsimp only[Nat.reduceAdd,List.set,setA] at s
 refine za rfl (zv (zg rfl (zm rfl (zh rfl (az rfl rfl aN) (rfl) (zv (zj rfl (WP.skip (zw (zg rfl (zm rfl (zo rfl (aC rfl rfl rfl (by exact au ak (s.aq (k:=3) rfl (aK _ _)))) ?_)))))))))))
 refine zv (WP.block (zg rfl (zt rfl (az rfl rfl ej) (rfl) (za rfl (zv (zi rfl (WP.skip (zg rfl (za rfl (zv (zw (WP.block (WP.loop (zw (zg rfl (zk 3 rfl (zf rfl (lV _ _) (zl rfl (by exact s.ld (k:=2) rfl ah rfl) ?_))))))))))))))))))
 refine zo rfl (aC rfl rfl rfl (au ak (s.aq (k:=0) rfl (aK _ _)))) (zC rfl aL (rfl) (zk 2 rfl (WP.exit (zK 6 rfl (zY s 2 lV ah rfl (zo rfl (aC rfl rfl rfl (au ak (s.aq (k:=0) rfl (aK _ _)))) (zC rfl aL (rfl) (zk 5 rfl ?_))))))))
 have s0:=s
 have J:=jZ (s.buf (k:=0) rfl).view
 refine WP.drawn [none,none,some (0,2),some (0,2),some (0,2),some (0,2),some (0,2),none] rfl (by kernel_rfl) (by kernel_rfl) ?_
 refine zM rfl (aE.any rfl rfl rfl rfl (OpR.call rfl rfl rfl rfl (J7 hT (s.ae [1]))) ?_)
 rintro v h' ⟨rfl,rfl⟩
 refine zM rfl (zN rfl (zF rfl (lV _ _) (zL rfl (s.ld (k:=2) rfl ah rfl) (zO rfl (aC rfl rfl rfl (au ak (s.aq (k:=0) rfl (aK _ _)))) (aE.rX rfl rfl rfl rfl (az rfl rfl aL) (by rw[show δ.Im=0 from hc];rfl) ?_)))))
 refine aE.nil ⟨⟨aa,aa,fun _ _=>.inr ⟨rfl,⟨_,bV rfl⟩,bj _ rfl⟩,fun _ _=>.inr ⟨rfl,⟨_,su rfl⟩,bj _ rfl⟩,fun _ _=>.inr ⟨rfl,⟨_,lU rfl (lV _ _)⟩,bj _ rfl⟩,ga (.inr ⟨rfl,⟨_,o_load rfl (s0.ld (k:=2) rfl ah rfl)⟩,J⟩) (.inr ⟨rfl,⟨_,o_load rfl (s.ld (k:=2) rfl ah rfl)⟩,J⟩),ga (.inr ⟨rfl,⟨_,aC rfl rfl rfl (au ak (s0.aq (k:=0) rfl (aK _ _)))⟩,bj _ rfl⟩) (.inr ⟨rfl,⟨_,aC rfl rfl rfl (au ak (s.aq (k:=0) rfl (aK _ _)))⟩,bj _ rfl⟩),aa,aa⟩,?_⟩
 refine zK 7 rfl (zY s 2 lV ah rfl (zo rfl (aC rfl rfl rfl (au ak (s.aq (k:=0) rfl (aK _ _)))) (zn rfl (zf rfl (EW _ _) ?_))))
 refine zS rfl (by exact s.lu (k:=2) rfl jO rfl (by decide) rfl rfl) (fun h s => ?_)
 refine zk 7 rfl (WP.ret ⟨aa,_,rfl,?_⟩)
 have s1:=(s.del 3).kS (k:=1)
 refine⟨_,rfl,iw.2 ⟨b1,.aV,?_⟩⟩
 exact s1.ae [3,1,0]
theorem PX (J:W told)(s:Sat h (cM q p μ::S))(I:μ.Ok): Call ⟨Tryz.prog,told⟩ 108 [.ptr q 0,.int .u64 ((μ.base:Int)+(μ.b.length:Int))] h fun v h'=>v=.aW [.agg (nM 0 0 0 0 .aV .aV),.int .u64 0,.int .i64 17]∧Sat h' (cM q p μ::S):=by
 refine Call.of_wp (J.free _ rfl) Tryz.func108 rfl rfl (zg rfl ?_)
 refine aA.cB s rfl rfl rfl (cF Sb) (fun p4 h s => ?_)
 refine zk 4 rfl (WP.block (zK 4 rfl ?_))
 have s:=s.ae [1]
 refine zc rfl (E9 J s I.size) ?_
 rintro v h' ⟨rfl,rfl⟩
 refine zB rfl ej (by simp) ?_
 refine zk 5 rfl (zo rfl (cP rfl (by rw[Sc];rfl)) ?_)
 refine zS rfl (s.iK (j:=1) rfl wU rfl rfl) (fun h s => ?_)
 refine zk 3 rfl ?_
 refine WP.ret ⟨aa,_,UL rfl (s.cg (k:=1) rfl ES wU) rfl rfl,?_⟩
 exact⟨rfl,s.del 1⟩
theorem S2 (J:W told){n:Nat}(s:Sat h (cM q p μ::S))(I:μ.Ok)(hn:n<18446744073709551616)(h_:n≠μ.base+μ.b.length)(ue:μ.hasB n=false): Call ⟨Tryz.prog,told⟩ 108 [.ptr q 0,.int .u64 (n:Int)] h fun v h'=>v=.aW [.agg (nM 0 0 0 0 .aV .aV),.int .u64 0,.int .i64 1]∧Sat h' (cM q p μ::S):=by
 refine Call.of_wp (J.free _ rfl) Tryz.func108 rfl rfl (zg rfl ?_)
 refine aA.cB s rfl rfl rfl (cF Sb) (fun p4 h s => ?_)
 refine zk 4 rfl (WP.block (zK 4 rfl ?_))
 have s:=s.ae [1]
 refine zc rfl (E9 J s I.size) ?_
 rintro v h' ⟨rfl,rfl⟩
 refine zC rfl ej (by simp;omega) ?_
 refine zk 7 rfl (zc rfl (V7 (n:=n) J s I hn) ?_)
 rintro v h' ⟨rfl,rfl⟩
 refine zo rfl (eG rfl rfl) (zk 2 rfl (WP.MK rfl (by rw[ue];rfl) ?_))
 refine zg rfl (zo rfl (cP rfl (by rw[Sc];rfl)) ?_)
 refine zS rfl (s.iK (j:=1) rfl wU rfl rfl) (fun h s => ?_)
 refine zk 3 rfl ?_
 refine WP.ret ⟨aa,_,UL rfl (s.cg (k:=1) rfl ES wU) rfl rfl,?_⟩
 exact⟨rfl,s.del 1⟩
theorem Nk (hT:W told){n:Nat}(s:Sat h (cM q p μ::S))(J:μ.Ok)(hn:n<18446744073709551616)(I:n=μ.base+μ.b.length∨μ.hasB n=false): Call ⟨Tryz.prog,told⟩ 108 [.ptr q 0,.int .u64 (n:Int)] h fun v h'=>∃e:Int,e≠0∧v=.aW [.agg (nM 0 0 0 0 .aV .aV),.int .u64 0,.int .i64 e]∧Sat h' (cM q p μ::S):=by
 by_cases he:n=μ.base+μ.b.length
 ·have:=PX hT s J
  rw[show((μ.base:Int)+(μ.b.length:Int))=((n:Nat):Int) by omega] at this
  exact this.mono fun v h' ⟨h1,h2⟩=>⟨17,by decide,h1,h2⟩
 ·rcases I with I|I
  ·exact absurd I he
  ·exact(S2 hT s J hn he I).mono fun v h' ⟨h1,h2⟩=>⟨1,by decide,h1,h2⟩
end
section
variable {told:cy} {p:Nat} {op v:V} {b_:Bool}
theorem Nl (I:W told){n:Nat}(s:Sat h (fA a p q r op data bA::cM q p μ::S))(J:μ.Ok)(hn:n<18446744073709551616)(ue:n=μ.base+μ.b.length∨μ.hasB n=false):
  Call ⟨Tryz.prog,told⟩ 111 [.ptr a 0,.int .u64 (n:Int)] h fun v h'=>v=.int .i64 0∧Sat h' (fA a p q r op data bA::cM q p μ::S):=by
 obtain⟨dv,s⟩:=dB.1 s
 refine Call.of_wp (I.free _ rfl) Tryz.func111 rfl rfl (zK 6 rfl ?_)
 refine aA.yK s rfl rfl rfl rfl (fun p18 h s => ?_)
 refine aA.yK s rfl rfl rfl rfl (fun p19 h s => ?_)
 refine zo rfl (cP rfl (by rw[aaE];rfl)) ?_
 refine aA.cB s rfl rfl rfl (fH rfl rfl) (fun p21 h s => ?_)
 refine zk 5 rfl (zo rfl (G0 rfl rfl) (zk 8 rfl (WP.block (WP.loop (WP.block (zK 4 rfl (zY s 3 K4 Se rfl (zm rfl ?_))))))))
 have s1:=s.ae [5]
 refine zc rfl (Nk (n:=n) I s1 J hn ue) ?_
 rintro v h ⟨e,he,rfl,s⟩
 refine zk 4 rfl ?_
 refine aA.cB s rfl rfl rfl (cF Sb) (fun p8 h s => ?_)
 refine zS rfl (s.iK (j:=0) rfl wU rfl rfl) (fun h s => ?_)
 refine zk 7 rfl (zB rfl aN (by simp;exact he) ?_)
 have s:=oE (f:=fun v (b:List Nat)=>.bK v b) (s.ae [4])
 refine zk 2 rfl (WP.exit (zK 5 rfl (zY s 3 K_ oB rfl (zc rfl (Cb I s) ?_))))
 rintro v h ⟨kb,rfl,s⟩
 refine zc rfl (zD I s (by decide) (by decide) (by simp)) ?_
 intro kv h s
 refine zo rfl (aC rfl rfl rfl (s.eY (n:=0) (j:=0) rfl rfl (by decide) cC)) ?_
 exact zk 2 rfl (WP.block (WP.loop (zg rfl (zC rfl aL (rfl) (zk 3 rfl (WP.exit (zK 5 rfl (zY s 5 K_ oB rfl (zo rfl (aC rfl rfl rfl (Sr (s.ae [2]) rD)) (zB rfl ej (rfl) (zk 6 rfl (WP.ret ⟨aa,_,rfl,rfl,((((((dB.2 ⟨dv,s.ae [7,7,4]⟩).del 7).del 6).del 5).del 4).del 3).del 2⟩))))))))))))
theorem Lg.IK : Lg.fresh.Ok:=⟨by decide,by decide,by simp[Lg.fresh],List.Pairwise.nil,by decide,by decide,by decide⟩
theorem Km (I:W told){n:Nat}(s:Sat h (bM p δ::S))(h1:1≤n)(h2:n≤1024)(J:δ.dead=false)(hm:δ.mark=[])(hl:δ.log=[])(hc:δ.fG=0):
  Call ⟨Tryz.prog,told⟩ 40 [.ptr p 0,.int .i64 (n:Int)] h fun v h'=>∃a q r,v=.aW [.ptr a 0,.int .i64 0]∧Sat h' (fA a p q r .cU [] 0::e_ r p q (Pl.fresh n)::cM q p Lg.fresh::bM p δ::S):=by
 refine Call.of_wp (I.free _ rfl) Tryz.func40 rfl rfl (zK 9 rfl (zC rfl aL (by simp<;>omega) ?_))
 refine zk 2 rfl (zC rfl cL (by simp<;>omega) ?_)
 refine zk 7 rfl (zc rfl (Kl I s J hm hl hc) ?_)
 rintro v h ⟨q,rfl,s⟩
 refine zk 10 rfl (zC rfl aN (rfl) (zk 8 rfl (zc rfl (Wf (p:=p) (q:=q) (n:=n) I s) ?_)))
 rintro v h (⟨hn,_,_⟩|⟨_,_,r,rfl,s⟩)
 ·omega
 rw[dm] at s
 refine zk 10 rfl (zC rfl aN (rfl) (zk 8 rfl (zo rfl (cP rfl (by rw[aar];rfl)) ?_)))
 refine aA.cB s rfl rfl rfl (fH rfl rfl) (fun p44 h s => ?_)
 refine zk 5 rfl (zc rfl (Pw I (s.ae [2])) ?_)
 rintro v h' ⟨rfl,rfl⟩
 refine zk 6 rfl (zc rfl (J9 I (s.ae [2])) ?_)
 rintro v h' ⟨rfl,rfl⟩
 refine zk 5 rfl (zC rfl aN (rfl) (zk 8 rfl ?_))
 have s1:=dB.2 ⟨.aV,(s.qT).ae [1,0]⟩
 refine zc rfl (Nl (n:=1) I (s1.ae [0,1]) Lg.IK (by decide) (.inl rfl)) ?_
 rintro v h ⟨rfl,s⟩
 exact zk 5 rfl (zC rfl aN (rfl) (zk 9 rfl (WP.ret ⟨aa,_,rfl,_,q,r,rfl,s.ae [0,1,0]⟩)))
end
section
variable {told:cy} {p:Nat} {op v:V} {b_:Bool}
theorem S3 (I:W told)(s:Sat h (fA a p q r op data bA::S)): Call ⟨Tryz.prog,told⟩ 96 [.ptr a 0] h fun v h'=>v=.ptr p 0∧h'=h:=by
 obtain⟨dv,s⟩:=dB.1 s
 exact Call.of_wp (I.free _ rfl) Tryz.func96 rfl rfl (zK 8 rfl (zY s 0 AZ uX rfl (zk 2 rfl (WP.ret ⟨aa,_,rfl,rfl,rfl⟩))))
end
section
variable {told:cy} {p:Nat} {op v:V} {b_:Bool}
theorem Nm (I:W told){n m f:Nat}(s:Sat h S)(h1:1≤n)(h2:n≤65536)(h3:m≤16777216)(J:1≤f)(h5:f≤1024):
  Call ⟨Tryz.prog,told⟩ 31 [.int .i64 (n:Int),.int .i64 (m:Int),.int .i64 (f:Int)] h fun v h'=>∃p a q r,v=.aW [.ptr p 0,.ptr a 0] ∧
   Sat h' (fA a p q r .cU [] 0::e_ r p q (Pl.fresh f)::cM q p Lg.fresh::bM p (Dk.fresh n m)::S):=by
 refine Call.of_wp (I.free _ rfl) Tryz.func31 rfl rfl (zK 9 rfl (zc rfl (V2 (n:=(n:Int)) (m:=(m:Int)) I s) ?_))
 rintro v h (⟨hn,_,_⟩|⟨_,_,_,_,p,rfl,s⟩)
 ·omega
 rw[dm,dm] at s
 refine zk 10 rfl (zC rfl aN (rfl) (zk 2 rfl (zC rfl (xk Tryz.underlying69) (rfl) (zk 8 rfl (zc rfl (Km (n:=f) I s J h5 rfl rfl rfl rfl) ?_)))))
 rintro v h ⟨a,q,r,rfl,s⟩
 exact zk 10 rfl (zC rfl aN (rfl) (zk 2 rfl (zC rfl (xk zI) (rfl) (zk 11 rfl (WP.ret ⟨aa,_,rfl,p,a,q,r,rfl,s⟩)))))
end
section
theorem Bc (s:Sat h S){e:TypeId}{z:V}(hu:P.underlying t=some (.slice e))(I:zeroT P e=some z)(J:bg P e=some k)(hl:z.cells.length=k)(h1:1≤k):
  ∃h',buildSliceV P h t 0 []=some (.sl h.next 0 0 (.exact 0),h')∧Sat h' (pt h.next (.cells 0 [] false)::S):=by
 refine⟨newRow h [],?_,s.new _⟩
 simp only[buildSliceV,hu,J,I]
 rw[show(Nat.beq z.cells.length k&&Nat.ble (0*k) 65536&&Nat.ble 1 k)=true by rw[hl,jd,aP.2 (by omega),aP.2 h1];rfl,ag]
 simp only[repeatL,fillV,lM,ag]
theorem Lx (s:Sat h (pt id (.cells 0 [] false)::S)): Sat h (aQ (.sl id 0 0 (.exact 0)) []::S) :=
 s.dG fun m r hm=>⟨by simp,.inr (.inl ⟨id,[],0,rfl,hm,rfl⟩)⟩
theorem Wo (s:Sat h (pt id (.cells 0 [] false)::S)): Sat h (.arr q (.sl id 0 0 (.exact 0)) []::S) :=
 s.dG fun m r hm=>⟨rfl,.inr ⟨id,0,.exact 0,0,[],rfl,hm,by simp,rfl,rfl,by simp,aM _⟩⟩
end
theorem Dz : ∀ {l:List Nat},(∀b∈l,b<256)→bytesOf (ofBytes l)=some l:=by
 intro l
 induction l with
 |nil=>intro _;rfl
 |cons b l J =>
  intro h
  have I:=J fun x hx=>h x (bR _ hx)
  have h2:=h b bO
  rw[ofBytes] at I
  simp only[ofBytes,jb,bytesOf,I,aD,List.cons.injEq,and_true]
  omega
theorem uE {v:V}(hv:View h v l): convV Tryz.prog h 29 9 v=some (.str l,h):=by
 obtain⟨I,(⟨rfl|⟨ea,rfl⟩,rfl⟩|⟨id,off,cap,n,cs,st,rfl,J,hl,ho,hc,_⟩)⟩:=hv
 ·simp only[convV,ak,mB,Tryz.underlying5]
 ·simp only[convV,ak,mB,Tryz.underlying5]
 ·have e:rdN h id off l.length=some (ofBytes l):=by rw[og J hl ho,hc]
  simp only[convV,ak,mB,Tryz.underlying5,e,Dz I]
def UM (l:List Nat): List Nat:=if l.length≠512∨l=List.replicate 512 0 then[] else l.drop 12
structure DK (δ Ng:Dk): Prop where
 dead:Ng.dead=δ.dead
 cn:Ng.cn=δ.cn
 bD:Ng.bD=δ.bD
 now:Ng.now=δ.now
theorem DK.refl (δ:Dk): DK δ δ:=⟨rfl,rfl,rfl,rfl⟩
theorem DK.at (h:DK δ Ng)(n:Int): Ng.at n=δ.at n:=by rw[Dk.at,Dk.at,h.now,h.bD]
structure DA (N:Nat)(δ:Dk): Prop where
 alive:δ.dead=false
 cn:δ.cn<0
 bD:δ.bD.length=N
 keys:∀k:Int,k∈δ.now.map (·.1)→0≤k∧k<N
 nodup:(δ.now.map (·.1)).Nodup
 good:∀n:Int,0≤n→n<N→iL (δ.at n)=0
theorem DA.of (h:DA N δ)(k:DK δ Ng): DA N Ng :=
 ⟨k.dead.trans h.alive,by rw[k.cn];exact h.cn,by rw[k.bD];exact h.bD,by rw[k.now];exact h.keys,by rw[k.now];exact h.nodup,fun n a b=>by rw[k.at];exact h.good n a b⟩
theorem IL (h:δ.cn<0): δ.fg=δ:=by
 have:(if 0<δ.cn then δ.cn-1 else δ.cn)=δ.cn:=ax (by omega)
 rw[Dk.fg,this]
theorem S4 (h:DA N δ): δ.iE=(0,{ δ with fG:=δ.log.length }):=by
 rw[Dk.iE,ax (by rw[h.alive];decide),ax (by have:=h.cn;omega),IL h.cn]
theorem PY {x:LD}{n:Nat}(h:DA N x.2): (cr x n).1=0∧DK x.2 (cr x n).2.2:=by
 unfold cr
 split
 ·exact⟨rfl,DK.refl _⟩
 ·rw[S4 h,ax (by simp)]
  exact⟨rfl,rfl,rfl,rfl,rfl⟩
theorem S5 (h:DA N δ)(h0:0≤n)(h1:n<N)(hb:b.length=512)(hc:iL b=0):
  (δ.dI n b).1=0∧DA N (δ.dI n b).2∧∀m,(δ.dI n b).2.at m=if n=m then b else δ.at m:=by
 have e:δ.dI n b=(0,δ.wr n b):=by
  rw[Dk.dI,ax (by rw[h.alive];decide),ax (not_not_intro ⟨h0,by rw[h.bD];exact h1,hb⟩),ax (by have:=h.cn;omega)]
 have u_:(δ.wr n b).now=cY n b δ.now:=rfl
 have dW:(δ.wr n b).bD=δ.bD:=rfl
 have I:∀m,(δ.wr n b).at m=if n=m then b else δ.at m:=fun m=>by
  grind[Dk.at,kT]
 have J:(δ.wr n b).cn=δ.cn:=by
  show δ.fg.cn=δ.cn
  rw[IL h.cn]
 rw[e]
 refine⟨rfl,⟨h.alive,by rw[J];exact h.cn,h.bD,fun x hx => ?_,?_,fun m a c => ?_⟩,I⟩
 ·rcases tI.1 hx with rfl|hx
  ·omega
  ·exact h.keys x hx
 ·exact mj h.nodup
 ·rw[I]
  by_cases hm:n=m
  ·grind
  ·rw[ax hm];exact h.good m a c
theorem Kn {m:List Nat}{b:Nat}(J:a+m.length≤l.length)(h2:a+m.length≤b): (aF l a m).drop b=l.drop b:=by
 have I:(l.take a).length=a:=by grind
 rw[aF,←eB,sG,nA (by grind),cO,sK,aX,I]
 congr 1;omega
theorem DB {m:List Nat}(h:a+m.length≤l.length): (aF l a m)[i]?=if a≤i∧i<a+m.length then m[i-a]? else l[i]?:=by
 grind[aF]
theorem tP {m:List Nat}(I:l.drop 12=m.drop 12)(J:12≤a): c9 l a z=c9 m a z:=by
 have e:∀l:List Nat,(l.take (a+z)).drop a=((l.drop 12).drop (a-12)).take z:=fun l=>by
  simp_all[kF]
 rw[c9,c9,e,e,I]
theorem Ko {m:List Nat}(I:l.drop 12=m.drop 12){low:Nat}: ∀(n i:Nat) (t:List Bool),cellsL l low n i t=cellsL m low n i t:=by
 intro n
 induction n<;>grind[bu,tP,dR,cellsL]
theorem Nn {m:List Nat}(J:l.length=m.length)(I:l.drop 12=m.drop 12): b7 l=b7 m:=by
 have e1:jf l=jf m:=tP I (by omega)
 have e2:dw l=dw m:=tP I (by omega)
 have e3:l.getD 13 0=m.getD 13 0:=by
  have:∀l:List Nat,l[13]?=(l.drop 12)[1]?:=fun l=>by simp
  grind
 grind[b7,Ko]
theorem IM : ∀(k n:Nat),leN (le k n)=n%256^k:=by
 intro k
 induction k<;>grind[le,leN,Nat.mod_mul]
theorem zU {n:Nat}(J:b.length=512): (dK b n).drop 12=b.drop 12∧(dK b n).length=512∧(dK b n).drop 4=(oF b n).drop 4∧c9 (dK b n) 0 4=Dl 0 ((oF b n).drop 4)%4294967296:=by
 have h1:=wZ (n:=n) J
 have h2:(dK b n).length=512:=by grind[dK,bL,dH]
 have I:(dK b n).drop 4=(oF b n).drop 4:=by rfl
 have h4:(oF b n).drop 12=b.drop 12:=by grind[oF,Kn,dH]
 refine⟨?_,h2,I,?_⟩
 ·have:=dn (List.drop 8) I
  grind[List.drop_drop]
 ·have e:(dK b n).take 4=le 4 (Dl 0 ((oF b n).drop 4)):=by
   rfl
  grind[c9,IM]
theorem Wp {n:Nat}(I:∀x∈b,x<256): ∀x∈oF b n,x<256:=ur I (MY _ _)
theorem PZ {n:Nat}(I:b7 b=true)(hb:∀x∈b,x<256): iL (dK b n)=0∧b7 (dK b n)=true∧UM (dK b n)=b.drop 12:=by
 have J:=iR I
 obtain⟨h1,h2,h3,h4⟩:=zU (n:=n) J
 have H8:b7 (dK b n)=true:=by grind[Nn]
 have hz:b7 (List.replicate 512 0)=false:=by decide +kernel
 grind[B4,Wp,iL,UM]
def pgA (ε:bw)(n:Int): List Nat:=match lookL n ε.1.bJ with
 |some i=>match ε.1.ai[i.toNat]? with
  |some f=>f.b
  |none=>ε.2.2.at n
 |none=>ε.2.2.at n
structure S6 (N:Nat)(δ:Dk)(bJ:List (Int×Int))(i:Nat)(f:Fm): Prop where
 lt:f.bE<N
 here:lookL f.bE bJ=some (i:Int)
 bA:iL f.b=0
 same:f.changed=false→f.b=δ.at f.bE
 qo:f.changed=true→b7 f.b=true
structure EC (N:Nat)(ε:bw): Prop where
 dk:DA N ε.2.2
 nodup:(ε.1.bJ.map (·.1)).Nodup
 nj:∀(n i:Int),lookL n ε.1.bJ=some i→0≤n∧∃(j:Nat) (f:Fm),i=j∧ε.1.ai[j]?=some f∧f.bE=n
 back:∀(i:Nat) (f:Fm),ε.1.ai[i]?=some f→f.bE<0∨S6 N ε.2.2 ε.1.bJ i f
 Cd:∀k:Int,k∈ε.1.dh.map (·.1)→0≤k∧k<N
 IN:(ε.1.dh.map (·.1)).Nodup
theorem oG {f:Fm}(h:lookL n ε.1.bJ=some (j:Int))(I:ε.1.ai[j]?=some f): pgA ε n=f.b:=by
 grind[pgA]
theorem nk (h:lookL n ε.1.bJ=none): pgA ε n=ε.2.2.at n:=by simp only[pgA,h]
theorem EC.cases (h:EC N ε)(n:Int): (∃(j:Nat) (f:Fm),lookL n ε.1.bJ=some (j:Int)∧ε.1.ai[j]?=some f∧f.bE=n∧0≤n∧S6 N ε.2.2 ε.1.bJ j f∧pgA ε n=f.b)∨(lookL n ε.1.bJ=none∧pgA ε n=ε.2.2.at n):=by
 cases J:lookL n ε.1.bJ with
 |none=>grind[nk]
 |some i =>
  obtain⟨h0,j,f,rfl,I,hp⟩:=h.nj n i J
  refine .inl ⟨j,f,rfl,I,hp,h0,?_,oG J I⟩
  rcases h.back j f I with h1|h1
  ·omega
  ·exact h1
theorem uF {m:List Fm}{f g x:Fm}(I:m[i]?=some f)(J:(m.set i g)[j]?=some x): (i=j∧x=g)∨(i≠j∧m[j]?=some x):=by
 grind
theorem EC.set {f g:Fm}{y:Lg}(h:EC N ε)(hf:ε.1.ai[i]?=some f)(hp:g.bE=f.bE)(SG:DA N δ)
 (hg:g.bE<0∨S6 N δ ε.1.bJ i g)(ho:∀(j:Nat) (x:Fm),i≠j→ε.1.ai[j]?=some x→0≤x.bE→δ.at x.bE=ε.2.2.at x.bE)(hd:∀k:Int,k∈d.map (·.1)→0≤k∧k<N)(YW:(d.map (·.1)).Nodup):
  EC N ({ ε.1 with ai:=ε.1.ai.set i g,dh:=d },(y,δ)):=by
 refine⟨SG,h.nodup,fun n k hk => ?_,fun j x J => ?_,hd,YW⟩
 ·obtain⟨h0,j,x,rfl,J,LA⟩:=h.nj n k hk<;>grind
 ·rcases uF hf J with⟨rfl,rfl⟩|⟨nW,J⟩
  ·exact hg
  ·rcases h.back j x J with I|I
   ·omega
   ·by_cases h2:x.bE<0
    ·omega
    ·refine .inr ⟨I.lt,I.here,I.bA,fun hc => ?_,I.qo⟩
     rw[ho j x nW J (by omega)];exact I.same hc
theorem LB {f g:Fm}{x:LD}(I:ε.1.ai[i]?=some f)(J:g.b=f.b)(hx:lookL n ε.1.bJ=none→x.2.at n=ε.2.2.at n)(hy:∀j:Int,lookL n ε.1.bJ=some j→∃f',ε.1.ai[j.toNat]?=some f'):
  pgA ({ ε.1 with ai:=ε.1.ai.set i g,dh:=d },x) n=pgA ε n:=by
 unfold pgA
 grind
theorem EC.there (h:EC N ε): ∀j:Int,lookL n ε.1.bJ=some j→∃f',ε.1.ai[j.toNat]?=some f':=fun j I=>by
 obtain⟨_,k,f,rfl,J,_⟩:=h.nj n j I<;>grind
theorem EC.out {f:Fm}(h:EC N ε)(I:ε.1.ai[i]?=some f):
  (outF ε i).1=0∧EC N (outF ε i).2∧(∀n,pgA (outF ε i).2 n=pgA ε n)∧(outF ε i).2.1.bJ=ε.1.bJ∧∃g,(outF ε i).2.1.ai[i]?=some g∧g.bE=f.bE∧(0≤g.bE→g.changed=false):=by
 have hi:=(List.getElem?_eq_some_iff.1 I).1
 unfold outF
 rw[I]
 simp only
 by_cases hc:f.bE<0∨f.changed=false
 ·grind
 ·rw[ax hc]
  have J:0≤f.bE:=by omega
  have xK:f.changed=true:=by grind
  have ho:=(h.back i f I).resolve_left (by omega)
  have hg:=ho.qo xK
  rw[ax (by grind)]
  obtain⟨e1,k1⟩:=PY (x:=ε.2) (n:=c9 f.b 4 8) h.dk
  rw[ax (by omega)]
  obtain⟨e2,k2,k3⟩:=S5 (h.dk.of k1) J ho.lt (iR hg) ho.bA
  rw[ax (by omega)]
  have rZ:∀m,f.bE≠m→((cr ε.2 (c9 f.b 4 8)).2.2.dI f.bE f.b).2.at m=ε.2.2.at m:=fun m hm=>by rw[k3,ax hm,k1.at]
  refine⟨rfl,h.set I rfl k2 (.inr ⟨ho.lt,ho.here,ho.bA,fun _ => ?_,fun hq=>(by cases hq)⟩) (fun j x nW hx h0=>rZ _ fun P3 => ?_) (fun k hk => ?_) (mj h.IN),fun n => ?_,rfl,_,iX hi,rfl,fun _=>rfl⟩
  ·grind
  ·rcases h.back j x hx with h1|h1
   ·omega
   ·have:=h1.here
    rw[←P3,ho.here] at this
    grind
  ·rcases tI.1 hk with rfl|hk
   ·exact⟨J,ho.lt⟩
   ·exact h.Cd k hk
  ·exact LB I (by rfl) (fun hn=>rZ n fun e=>by rw[←e,ho.here] at hn;cases hn) h.there
theorem fW.back (I:fW π bY){x:Fm}(J:bY.ai[i]?=some x): ∃f t,π.ai[i]?=some f∧x={ f with fK:=t }:=by
 have hi:=(List.getElem?_eq_some_iff.1 J).1
 rw[I.len] at hi
 have hf:π.ai[i]?=some (π.ai[i]'hi):=aG _
 obtain⟨t,ht⟩:=I.get i _ hf<;>grind
theorem EC.rS (h:EC N ε)(I:fW ε.1 bY): EC N (bY,ε.2)∧∀n,pgA (bY,ε.2) n=pgA ε n:=by
 refine⟨⟨h.dk,by rw[I.bJ];exact h.nodup,fun n i hi => ?_,fun i x hx => ?_,by rw[I.dh];exact h.Cd,by rw[I.dh];exact h.IN⟩,fun n => ?_⟩
 ·rw[I.bJ] at hi
  obtain⟨h0,j,f,rfl,hf,hp⟩:=h.nj n i hi
  obtain⟨t,ht⟩:=I.get j f hf
  exact⟨h0,j,_,rfl,ht,hp⟩
 ·obtain⟨f,t,hf,rfl⟩:=I.back hx
  rcases h.back i f hf with J|J
  ·grind
  ·exact .inr ⟨J.lt,by rw[I.bJ];exact J.here,J.bA,J.same,J.qo⟩
 ·unfold pgA
  simp only[I.bJ]
  cases hl:lookL n ε.1.bJ with
  |none=>rfl
  |some i =>
   obtain⟨h0,j,f,rfl,hf,hp⟩:=h.nj n i hl
   obtain⟨t,ht⟩:=I.get j f hf<;>grind
theorem EC.dz {f g:Fm}(h:EC N ε)(hg:ε.1.ai[i]?=some g)(hp:g.bE=f.bE)(hc:0≤g.bE→g.changed=false): EC N (dz ε.1 i f,ε.2)∧(∀n,pgA (dz ε.1 i f,ε.2) n=pgA ε n) ∧
  (dz ε.1 i f).ai[i]?=some eS∧∀n,lookL n ε.1.bJ=none→lookL n (dz ε.1 i f).bJ=none:=by
 have hi:=(List.getElem?_eq_some_iff.1 hg).1
 have J:(ε.1.ai.set i eS)[i]?=some eS:=iX hi
 have P4:∀n,lookL n (Am.dz ε.1 i f).bJ=if 0≤f.bE∧f.bE=n then none else lookL n ε.1.bJ:=fun n=>by
  rw[Am.dz]
  by_cases I:f.bE<0
  ·grind
  ·rw[ax I,F_ h.nodup]
   simp_all
 refine⟨⟨h.dk,?_,fun n k hk => ?_,fun j x hx => ?_,h.Cd,h.IN⟩,fun n => ?_,J,fun n hn => ?_⟩
 ·rw[Am.dz]
  by_cases I:f.bE<0
  ·rw[aH I];exact h.nodup
  ·rw[ax I];exact wX h.nodup
 ·rw[P4] at hk
  split at hk
  ·cases hk
  ·obtain⟨I,j,x,rfl,hx,LA⟩:=h.nj n k hk
   refine⟨I,j,x,rfl,?_,LA⟩
   show(ε.1.ai.set i eS)[j]?=some x
   grind
 ·rcases uF hg hx with⟨rfl,rfl⟩|⟨nW,hx⟩
  ·exact .inl (by decide)
  ·rcases h.back j x hx with h1|h1
   ·omega
   ·by_cases hx0:x.bE<0
    ·omega
    refine .inr ⟨h1.lt,?_,h1.bA,h1.same,h1.qo⟩
    rw[P4,ax]
    ·exact h1.here
    ·rintro⟨I,P3⟩
     rcases h.back i g hg with h2|h2
     ·omega
     ·have e:=h2.here
      rw[hp,P3,h1.here] at e
      grind
 ·rcases h.cases n with⟨j,x,hl,hx,LA,I,ho,e⟩|⟨hl,e⟩
  ·rw[e]
   by_cases P3:f.bE=n
   ·have nW:i=j:=by
     rcases h.back i g hg with h2|h2
     ·omega
     ·have e:=h2.here
      grind
    subst nW
    rw[hg] at hx
    have:=bp hx
    subst this
    rw[nk (by grind)]
    rw[ho.same (hc (by omega)),hp,P3]
   ·refine oG (j:=j) (by grind) ?_
    show(ε.1.ai.set i eS)[j]?=some x
    grind
  grind[nk]
 ·grind
theorem EC.jr {e:Fm}(h:EC N ε)(he:ε.1.ai[i]?=some e)(hp:e.bE<0)(hl:lookL n ε.1.bJ=none)(h0:0≤n)(h1:n<N): EC N (jr ε.1 i n (ε.2.2.at n),ε.2)∧∀m,pgA (jr ε.1 i n (ε.2.2.at n),ε.2) m=pgA ε m:=by
 have hi:=(List.getElem?_eq_some_iff.1 he).1
 have I:(ε.1.ai.set i ⟨n,ε.2.2.at n,1,true,false⟩)[i]?=some ⟨n,ε.2.2.at n,1,true,false⟩:=iX hi
 have P4:∀m,lookL m (Am.jr ε.1 i n (ε.2.2.at n)).bJ=if n=m then some (i:Int) else lookL m ε.1.bJ:=fun m=>kT _
 refine⟨⟨h.dk,mj h.nodup,fun m k hk => ?_,fun j x hx => ?_,h.Cd,h.IN⟩,fun m => ?_⟩
 ·rw[P4] at hk
  split at hk
  ·rename_i J
   have:=bp hk
   subst this
   subst J
   exact⟨h0,i,_,rfl,I,rfl⟩
  ·obtain⟨h0,j,x,rfl,hx,LA⟩:=h.nj m k hk
   refine⟨h0,j,x,rfl,?_,LA⟩
   show(ε.1.ai.set i _)[j]?=some x
   grind
 ·rcases uF he hx with⟨rfl,rfl⟩|⟨nW,hx⟩
  ·exact .inr ⟨h1,by grind,h.dk.good n h0 h1,fun _=>rfl,fun hq=>(by cases hq)⟩
  ·rcases h.back j x hx with h2|h2
   ·omega
   ·refine .inr ⟨h2.lt,?_,h2.bA,h2.same,h2.qo⟩
    rw[P4,ax]
    ·exact h2.here
    ·rintro rfl
     rw[h2.here] at hl;cases hl
 ·by_cases J:n=m
  ·subst J
   rw[oG (j:=i) (by grind) I,nk hl]
  ·rcases h.cases m with⟨j,x,iq,hx,LA,_,ho,e2⟩|⟨iq,e2⟩
   ·rw[e2]
    refine oG (j:=j) (by grind) ?_
    show(ε.1.ai.set i _)[j]?=some x
    grind
   grind[nk]
theorem EC.frame {f g:Fm}(h:EC N ε)(hf:ε.1.ai[i]?=some f)(J:g.bE=f.bE)(hb:g.b=f.b)(hc:g.changed=f.changed): EC N ({ ε.1 with ai:=ε.1.ai.set i g },ε.2)∧∀n,pgA ({ ε.1 with ai:=ε.1.ai.set i g },ε.2) n=pgA ε n:=by
 refine⟨h.set (y:=ε.2.1) (δ:=ε.2.2) hf J h.dk ?_ (fun _ _ _ _ _=>rfl) h.Cd h.IN,fun n=>LB hf hb (fun _=>rfl) h.there⟩
 rcases h.back i f hf with I|I
 ·omega
 ·exact .inr ⟨by rw[J];exact I.lt,by rw[J];exact I.here,by rw[hb];exact I.bA,by rw[J,hb,hc];exact I.same,by rw[hb,hc];exact I.qo⟩
theorem fX.ec (hr:fX ε n e b aj)(h:EC N ε): EC N aj∧(∀m,pgA aj m=pgA ε m)∧(0≤n→n<N→e=0∧b=pgA ε n)∧(¬(0≤n∧n<N)→e=1∧aj=ε):=by
 have dW:=h.dk.bD
 cases hr with
 |arg I=>grind
 |Gc i f h1 J hl hf =>
  obtain⟨k1,k2⟩:=h.frame (g:={ f with fK:=true,pins:=f.pins+1 }) hf rfl rfl rfl<;>grind[oG]
 |out bY i f h1 J hl I hf hh he=>exact absurd ((h.rS I).1.out hf).1 he
 |read bY i f h1 J hl I hf hh he hr =>
  obtain⟨k1,k2,k3,k4,g,k5,k6,k7⟩:=(h.rS I).1.out hf
  refine absurd ?_ hr
  rw[dW] at J
  rw[Dk.qV,ax (by rw[k2.dk.alive];decide),ax (by rw[k2.dk.bD];exact not_not_intro ⟨h1,J⟩)]
 |bad bY i f h1 J hl I hf hh he hr hc =>
  obtain⟨k1,k2,k3,k4,g,k5,k6,k7⟩:=(h.rS I).1.out hf
  rw[dW] at J
  exact absurd (k2.dk.good n h1 J) hc
 |load bY i f h1 J hl I hf hh he hr hc =>
  obtain⟨n1,n2⟩:=h.rS I
  obtain⟨k1,k2,k3,k4,g,k5,k6,k7⟩:=n1.out hf
  rw[dW] at J
  obtain⟨f1,f2,f3,f4⟩:=k2.dz k5 k6 k7
  have iq:lookL n (outF (bY,ε.2) i).2.1.bJ=none:=by rw[k4];rw[I.bJ];exact hl
  obtain⟨l1,l2⟩:=f1.jr f3 (by decide) (f4 n iq) h1 J
  exact⟨l1,fun m=>by grind,fun _ _=>⟨rfl,by grind[nk]⟩,fun I=>absurd ⟨h1,J⟩ I⟩
theorem P5 {x:LD}(h:EC N (π,x)): EC N ((unpinF π n).2,x)∧∀m,pgA ((unpinF π n).2,x) m=pgA (π,x) m:=by
 unfold unpinF
 split
 ·grind
 ·split
  ·grind
  ·rename_i i hi f I
   exact h.frame (g:={ f with pins:=f.pins-1 }) I rfl rfl rfl
theorem mW.ec (I:mW ε n e b aj)(h:EC N ε)(hp:∀f∈ε.1.ai,f.pins=0): EC N aj∧(∀m,pgA aj m=pgA ε m)∧(0≤n→n<N→e=0∧b=pgA ε n)∧(¬(0≤n∧n<N)→e=1∧aj=ε):=by
 cases I with
 |dead J=>rw[h.dk.alive] at J;cases J
 |kr e b aj J I he =>
  obtain⟨k1,k2,k3,k4⟩:=I.ec h<;>grind
 |xg b aj J I he=>exact absurd (I.B_ hp).1 he
 |read b aj J I he =>
  obtain⟨k1,k2,k3,k4⟩:=I.ec h<;>grind[P5]
theorem GRd.ec (I:GRd ε now false n e b aj)(h:EC N ε)(J:∀f∈ε.1.ai,f.pins=0): EC N aj∧(∀m,pgA aj m=pgA ε m) ∧
  (0≤n→n<N→e=0∧b=(match lookL n now with|some b=>b|none=>pgA ε n))∧(¬(0≤n∧n<N)→e=1):=by
 have dW:=h.dk.bD
 cases I with
 |arg hn=>grind
 |b_ _ _ ho=>cases ho
 |own b h1 h2 _ hl=>grind
 |read e b aj h1 h2 _ hl I =>
  obtain⟨k1,k2,k3,k4⟩:=I.ec h J<;>grind
theorem P6 : ∀(N:Nat) (l:List Int),l.Nodup→(∀n∈l,0≤n∧n<N)→l.length≤N:=by
 intro N
 induction N with
 |zero =>
  intro l _ h
  cases l<;>grind[List.mem_cons_self]
 |succ N I =>
  intro l J h
  have h1:=I (l.erase (N:Int)) (J.erase _) fun n hn=>by
   grind
  grind
structure NW (N:Nat)(now:List (Int×List Nat)): Prop where
 good:∀e∈now,b7 e.2=true∧∀x∈e.2,x<256
 keys:∀k:Int,k∈now.map (·.1)→0≤k∧k<N
 nodup:(now.map (·.1)).Nodup
theorem NW.nil (N:Nat): NW N []:=⟨fun e h=>(by cases h),fun k h=>(by cases h),sL⟩
theorem No {a:α}: ∀ {l:List (Int×α)} {e:Int×α},e∈cY n a l→e=(n,a)∨e∈l:=by
 intro l
 induction l<;>grind[cY]
theorem NW.put (h:NW N now)(J:0≤n)(h1:n<N)(hg:b7 b=true)(hb:∀x∈b,x<256): NW N (cY n b now):=by
 refine⟨fun e he => ?_,fun k I => ?_,mj h.nodup⟩
 ·rcases No he with rfl|he
  ·grind
  ·exact h.good e he
 ·rcases tI.1 I with rfl|I
  ·omega
  ·exact h.keys k I
theorem NW.len (h:NW N now): now.length≤N:=by
 have:=P6 N _ h.nodup h.keys
 rwa [cq] at this
theorem NW.look (h:NW N now)(I:lookL n now=some b): b7 b=true∧∀x∈b,x<256:=h.good _ (mc I)
theorem tO.ec (I:tO ε now false n b e bH aj)(h:EC N ε)(J:∀f∈ε.1.ai,f.pins=0): EC N aj∧(∀m,pgA aj m=pgA ε m) ∧
  (¬(0≤n∧n<N)→e=1∧bH=now)∧(0≤n→n<N→b7 b=false→e=4∧bH=now)∧(0≤n→n<N→b7 b=true→e=0∧bH=cY n b now):=by
 cases I with
 |may e c aj I he =>
  obtain⟨k1,k2,k3,k4⟩:=I.ec h J<;>grind
 |bad c aj I hg =>
  obtain⟨k1,k2,k3,k4⟩:=I.ec h J<;>grind
 |done c aj I hg =>
  obtain⟨k1,k2,k3,k4⟩:=I.ec h J<;>grind
theorem kV.ec {l:List Int}{cs:List eE}(I:kV now l ε e cs aj): EC N ε→jG ε→(∀n∈l,0≤n∧n<N)→EC N aj∧(∀m,pgA aj m=pgA ε m)∧e=0:=by
 induction I with
 |nil ε=>grind
 |err n l ε e b aj I he =>
  intro h J hl
  obtain⟨k1,k2,k3,k4⟩:=I.ec h J.pins<;>grind
 |part n l ε was b aj c e cs mD I hb hd hc ff ht ih =>
  intro h J hl
  obtain⟨k1,k2,k3,k4⟩:=I.ec h J.pins
  obtain⟨i1,i2,i3⟩:=ih k1 (I.ou J) fun m hm=>hl m (bR _ hm)<;>grind
 |whole n l ε was b aj e cs mD I hb hd ht ih =>
  intro h J hl
  obtain⟨k1,k2,k3,k4⟩:=I.ec h J.pins
  obtain⟨i1,i2,i3⟩:=ih k1 (I.ou J) fun m hm=>hl m (bR _ hm)<;>grind
theorem EC.log {x:LD}(h:EC N ε)(k:DK ε.2.2 x.2): EC N (ε.1,x)∧∀m,pgA (ε.1,x) m=pgA ε m:=by
 refine⟨⟨h.dk.of k,h.nodup,h.nj,fun i f J => ?_,h.Cd,h.IN⟩,fun m => ?_⟩
 ·rcases h.back i f J with I|I
  ·omega
  ·exact .inr ⟨I.lt,I.here,I.bA,fun hc=>by rw[k.at];exact I.same hc,I.qo⟩
 ·unfold pgA
  simp only[k.at]
theorem EC.put {f:Fm}(h:EC N ε)(hl:lookL n ε.1.bJ=some (i:Int))(I:ε.1.ai[i]?=some f)(hg:b7 b=true)(hb:∀x∈b,x<256)(h0:0≤n)(h1:n<N):
  EC N (Fc ε.1 n i f b bf,ε.2)∧∀m,pgA (Fc ε.1 n i f b bf,ε.2) m=if m=n then dK b bf else pgA ε m:=by
 obtain⟨s1,s2,s3⟩:=PZ (n:=bf) hg hb
 have hi:=(List.getElem?_eq_some_iff.1 I).1
 have hp:f.bE=n:=by
  obtain⟨_,j,x,nW,hx,J⟩:=h.nj n i hl<;>grind
 have ho:=(h.back i f I).resolve_left (by omega)
 refine⟨h.set (y:=ε.2.1) (δ:=ε.2.2) I rfl h.dk (.inr ⟨ho.lt,ho.here,s1,fun hq=>(by cases hq),fun _=>s2⟩) (fun _ _ _ _ _=>rfl) (fun k hk => ?_) (mj h.IN),fun m => ?_⟩
 ·rcases tI.1 hk with rfl|hk
  ·omega
  ·exact h.Cd k hk
 ·by_cases hm:m=n
  ·subst hm
   rw[aH rfl]
   exact oG (ε:=(Fc ε.1 m i f b bf,ε.2)) hl (iX hi)
  ·rcases h.cases m with⟨j,x,iq,hx,J,_,_,e2⟩|⟨iq,e2⟩<;>grind[oG,Fc,nk]
theorem PtR.ec {l:List Int}(I:PtR now bf l ε e aj): EC N ε→jG ε→NW N now→(∀n∈l,0≤n∧n<N)→EC N aj∧e=0 ∧
  ∀m,pgA aj m=if m∈l then(match lookL m now with|some b=>dK b bf|none=>pgA ε m) else pgA ε m:=by
 induction I with
 |nil ε=>grind
 |kr n l ε e b aj I he =>
  intro h J hn hl
  have:=hl n bO
  exact absurd ((I.ec h).2.2.1 this.1 this.2).1 he
 |bad n l ε b0 b aj I hb he =>
  intro h J hn hl
  exact absurd ((I.put (b:=b) (bf:=bf) J).2.2 (hn.look hb).1) he
 |put n l ε b0 b aj e mD I hb he ht ih =>
  intro h J hn hl
  have UN:=hl n bO
  obtain⟨k1,k2,k3,k4⟩:=I.ec h
  obtain⟨i,f,p1,p2,p3,p4,p5⟩:=I.at J.pins
  have hg:=hn.look hb
  have e1:=Dx (bf:=bf) p1 p2 p3 hg.1
  obtain⟨q1,q2⟩:=k1.put (bf:=bf) p1 p2 hg.1 hg.2 UN.1 UN.2
  have h3':=(I.put (b:=b) (bf:=bf) J).1
  rw[e1] at ih h3'
  obtain⟨i1,i2,i3⟩:=ih q1 h3' hn fun m hm=>hl m (bR _ hm)
  refine⟨i1,i2,fun m => ?_⟩
  rw[i3,q2]
  by_cases hm:m=n
  ·grind
  ·grind
structure EL (K:Nat)(x:LD): Prop where
 log:x.1.b=x.2.log
 cert:x.1.forced≤x.2.fG
 size:x.1.base+x.1.b.length≤K
theorem EL.force {x:LD}{n:Nat}(h:EL K x): EL K (cr x n).2:=by
 unfold cr Dk.iE
 split
 ·exact h
 ·by_cases J:x.2.dead=true
  ·grind
  ·rw[ax J]
   by_cases I:x.2.cn=0
   ·rw[aH I,aH (show(9:Int)≠0 by decide)];exact⟨h.log,h.cert,h.size⟩
   ·rw[ax I,ax (show ¬(0:Int)≠0 by decide)];exact⟨h.log,by rw[h.log];exact aM _,h.size⟩
theorem EL.write {x:LD}(h:EL K x): EL K (x.1,(x.2.dI n b).2):=by
 unfold Dk.dI
 split
 ·exact h
 ·split
  ·exact h
  ·split<;>exact⟨h.log,h.cert,h.size⟩
theorem we (K:Nat): mq (EL K):=⟨fun _ _ h=>h.force,fun _ _ _ h=>h.write⟩
theorem mW.el (I:mW ε n e b aj)(h:EL K ε.2): EL K aj.2:=(we K).rd I h
theorem GRd.el {b_:Bool}(I:GRd ε now b_ n e b aj)(h:EL K ε.2): EL K aj.2:=(we K).zT I h
theorem tO.el {b_:Bool}(I:tO ε now b_ n b e bH aj)(h:EL K ε.2): EL K aj.2:=(we K).II I h
theorem kV.el {l:List Int}{cs:List eE}(I:kV now l ε e cs aj)(h:EL K ε.2): EL K aj.2:=(we K).ch I h
theorem PtR.el {l:List Int}(I:PtR now bf l ε e aj)(h:EL K ε.2): EL K aj.2:=(we K).pt I h
structure EI (N B:Nat)(ε:bw): Prop where
 ok:jG ε
 ec:EC N ε
 el:EL (B*1048600) ε.2
 cR:cR ε≤B*65536
theorem EI.more (h:EI N B ε){I:Nat}(J:B≤I): EI N I ε :=
 ⟨h.ok,h.ec,⟨h.el.log,h.el.cert,cX h.el.size (mG _ J)⟩,cX h.cR (mG _ J)⟩
theorem EI.rd (h:EI N B ε)(I:mW ε n e b aj): EI N B aj :=
 ⟨I.ou h.ok,(I.ec h.ec h.ok.pins).1,I.el h.el,cX I.cR h.cR⟩
theorem EI.zT (h:EI N B ε)(I:GRd ε now false n e b aj): EI N B aj :=
 ⟨I.ou h.ok,(I.ec h.ec h.ok.pins).1,I.el h.el,cX I.cR h.cR⟩
theorem EI.II (h:EI N B ε)(I:tO ε now false n b e bH aj): EI N B aj :=
 ⟨I.ou h.ok,(I.ec h.ec h.ok.pins).1,I.el h.el,cX I.cR h.cR⟩
theorem EI.many (h:EI N B ε): N≤65536:=by
 have:=h.ok.ok.dk.many
 rwa [h.ec.dk.bD] at this
theorem EI.app {kd:Int}{c:List eE}(h:EI N B ε)(hB:B≤1000)(hg:gM kd c=true):
  EI N (B+1) (ε.1,(bN ε.2 kd tx pv nx data c).2)∧(∀m,pgA (ε.1,(bN ε.2 kd tx pv nx data c).2) m=pgA ε m) ∧
  (((bN ε.2 kd tx pv nx data c).1.2=0∧bN ε.2 kd tx pv nx data c=((ε.2.1.base+ε.2.1.b.length,0),(ε.2.1.app (gN ε.2.1 kd tx pv nx data c),{ ε.2.2 with log:=ε.2.2.log++gN ε.2.1 kd tx pv nx data c }))) ∨
   (bN ε.2 kd tx pv nx data c).1.2=7∨((bN ε.2 kd tx pv nx data c).1.2=2∧1048576<(fO kd tx pv nx data c).length)):=by
 have hs:=h.el.size
 have J:=BN (kd:=kd) (tx:=tx) (pv:=pv) (nx:=nx) (data:=data) (c:=c) h.ok.ok.lg h.ok.ok.dk h.el.log (by omega)
 have zR:Am.cR (ε.1,(bN ε.2 kd tx pv nx data c).2)≤(B+1)*65536:=by
  have e:Am.cR (ε.1,(bN ε.2 kd tx pv nx data c).2)=Am.cR ε:=by grind[Am.cR]
  rw[e]
  exact cX h.cR (mG _ (vJ B))
 have fM:(bN ε.2 kd tx pv nx data c).2.1.base+(bN ε.2 kd tx pv nx data c).2.1.b.length≤(B+1)*1048600:=by
  omega
 have main:∀(hk:DK ε.2.2 (bN ε.2 kd tx pv nx data c).2.2) (hc:(bN ε.2 kd tx pv nx data c).2.1.forced≤(bN ε.2 kd tx pv nx data c).2.2.fG),EI N (B+1) (ε.1,(bN ε.2 kd tx pv nx data c).2)∧∀m,pgA (ε.1,(bN ε.2 kd tx pv nx data c).2) m=pgA ε m:=fun hk hc=>by
  obtain⟨l1,l2⟩:=h.ec.log hk
  exact⟨⟨⟨⟨h.ok.ok.pl,J.1,J.2.1⟩,h.ok.pins,h.ok.full⟩,l1,⟨J.2.2.1,hc,fM⟩,zR⟩,l2⟩
 rcases lY ε.2 kd tx pv nx data c with⟨e,he,hc,I⟩|⟨hd,hf,I⟩|⟨_,_,hd,dN,hf,I⟩
 ·obtain⟨m1,m2⟩:=main (by rw[I];exact DK.refl _) (by rw[I];exact h.el.cert)
  refine⟨m1,m2,.inr ?_⟩
  rw[I]
  rcases hc with⟨_,hb⟩|⟨rfl,hb⟩|⟨_,hb⟩|⟨rfl,hb⟩
  ·grind
  ·grind
  ·rw[h.ec.dk.alive] at hb;cases hb
  ·simp
 ·have:=h.ec.dk.cn;omega
 ·rw[IL h.ec.dk.cn] at I
  obtain⟨m1,m2⟩:=main (by rw[I];exact⟨rfl,rfl,rfl,rfl⟩) (by rw[I];exact h.el.cert)
  exact⟨m1,m2,.inl ⟨by rw[I],I⟩⟩
theorem EI.done {kd:Int}{cl:Bool}(h:EI N B ε)(hB:B≤1000)(hn:NW N now)(h1:1≤kd)(h2:kd≤7)(hr:rH ε now kd tx pv nx data 0 bf e cl aj):
  (cl=false∧(e=7∨e=2)∧EI N (B+2) aj∧∀m,pgA aj m=pgA ε m) ∨
  (cl=true∧e=0∧EI N (B+2) aj∧∀m,pgA aj m=match lookL m now with|some b=>dK b bf|none=>pgA ε m):=by
 have I:∀n∈fy now,0≤n∧n<N:=fun n hq=>hn.keys n (rG.1 hq)
 have hN:=h.many
 have dN:∀ {c:List eE} {aj:bw} {e:Int},kV now (fy now) ε e c aj→gM kd c=true:=fun J=>by
  refine SY ⟨h1,by omega⟩ (J.fit (fun x hx=>iR (hn.good x hx).1) fun n hq => ?_)<;>grind
 cases hr with
 |arg hq=>omega
 |dead _ _ _ hd=>rw[h.ec.dk.alive] at hd;cases hd
 |qo e c aj _ _ _ hd J he=>exact absurd (J.ec h.ec h.ok I).2.2 he
 |app c aj _ _ _ hd J he =>
  obtain⟨c1,c2,c3⟩:=J.ec h.ec h.ok I
  have hi:EI N B aj:=⟨J.ou h.ok,c1,J.el h.el,cX J.cR h.cR⟩
  obtain⟨a1,a2,a3⟩:=hi.app (kd:=kd) (tx:=tx) (pv:=pv) (nx:=nx) (data:=data) (c:=c) hB (dN J)
  refine .inl ⟨rfl,?_,a1.more (by omega),fun m=>by grind⟩<;>grind
 |put c aj e mD _ _ _ hd J ha hp =>
  obtain⟨c1,c2,c3⟩:=J.ec h.ec h.ok I
  have hi:EI N B aj:=⟨J.ou h.ok,c1,J.el h.el,cX J.cR h.cR⟩
  obtain⟨a1,a2,a3⟩:=hi.app (kd:=kd) (tx:=tx) (pv:=pv) (nx:=nx) (data:=data) (c:=c) hB (dN J)
  obtain⟨p1,p2,p3⟩:=hp.ec a1.ec a1.ok hn I
  have hl:(fy now).length≤N:=by
   have:=hn.len
   rw[fy,(gX _).length_eq,cq];exact this
  have pP:=hp.cR a1.ok
  have ug:=a1.cR
  refine .inr ⟨rfl,p2,⟨hp.ou a1.ok,p1,?_,by omega⟩,fun m => ?_⟩
  ·have:=hp.el a1.el
   exact⟨this.log,this.cert,cX this.size (mG _ (by omega))⟩
  ·grind[rG,sx]
theorem Kp (n:Nat): (digits 9 n).length≤10:=uC 9 n
def xR (π:Pl)(n:Int)(b:List Nat): Prop:=∃(i:Nat) (f:Fm),π.ai[i]?=some f∧f.bE=n∧0≤n∧f.changed=true∧f.b=b
abbrev VP := (Int→List Nat→Prop)→List (Int×(Nat×Bool))→LD→Prop
abbrev vw (P:VP)(ε:bw): Prop:=P (xR ε.1) ε.1.dh ε.2
theorem S7 (hn:fW π bY): xR bY=xR π:=by
 funext n b
 refine propext ⟨fun⟨i,x,hx,I,J,h2,h3⟩ => ?_,fun⟨i,f,hf,I,J,h2,h3⟩ => ?_⟩
 ·obtain⟨f,t,hf,rfl⟩:=hn.back hx
  exact⟨i,f,hf,I,J,h2,h3⟩
 ·obtain⟨t,ht⟩:=hn.get i f hf
  exact⟨i,_,ht,I,J,h2,h3⟩
theorem Be {f g:Fm}(J:π.ai[i]?=some f)(hs:∀n b,(f.bE=n∧0≤n∧f.changed=true∧f.b=b)↔(g.bE=n∧0≤n∧g.changed=true∧g.b=b)){w:List (Int×Int)}{hd:Nat}: xR ⟨π.ai.set i g,w,d,hd⟩=xR π:=by
 have hi:=(List.getElem?_eq_some_iff.1 J).1
 funext n b
 refine propext ⟨fun⟨j,x,I,h⟩ => ?_,fun⟨j,x,I,h⟩ => ?_⟩
 ·rcases uF J I with⟨rfl,rfl⟩|⟨_,I⟩
  ·exact⟨i,f,J,(hs n b).2 h⟩
  ·exact⟨j,x,I,h⟩
 ·by_cases hj:i=j
  ·subst hj
   rw[J] at I
   have:=bp I
   subst this
   exact⟨i,g,iX hi,(hs n b).1 h⟩
  ·exact⟨j,x,by grind,h⟩
theorem P7 {f g:Fm}(J:π.ai[i]?=some g)(hc:0≤g.bE→g.changed=false): xR (dz π i f)=xR π :=
 Be J fun n b=>⟨(fun⟨h1,h0,I,_⟩=>by grind),fun⟨_,_,I,_⟩=>(by cases I)⟩
theorem Np {e:Fm}(he:π.ai[i]?=some e)(J:e.bE<0): xR (jr π i n b)=xR π :=
 Be he fun m c=>⟨fun⟨h1,h0,_⟩=>by omega,fun⟨_,_,I,_⟩=>(by cases I)⟩
structure rT (N:Nat)(P:VP): Prop where
 one:∀(ε:bw) (i:Nat) (f:Fm),EC N ε→ε.1.ai[i]?=some f→0≤f.bE→f.changed=true→vw P ε→vw P (outF ε i).2
theorem mq.abZ (h:mq R)(N:Nat): rT N (fun _ _ x=>R x):=⟨fun _ _ _ _ _ _ _ hv=>h.out hv⟩
section
variable {P:VP} {l:List Int} {cs:List eE}
theorem rT.out (h:rT N P){f:Fm}(he:EC N ε)(I:ε.1.ai[i]?=some f)(hv:vw P ε): vw P (outF ε i).2:=by
 by_cases J:f.bE<0∨f.changed=false
 ·grind[outF]
 ·exact h.one ε i f he I (by omega) (by grind) hv
theorem rT.kr (h:rT N P)(hr:fX ε n e b aj)(he:EC N ε)(hv:vw P ε): vw P aj:=by
 cases hr with
 |arg I=>exact hv
 |Gc i f h1 J hl hf =>
  grind[Be]
 |out bY i f h1 J hl I hf hh hq=>exact absurd ((he.rS I).1.out hf).1 hq
 |read bY i f h1 J hl I hf hh hq hr =>
  obtain⟨k1,k2,k3,k4,g,k5,k6,k7⟩:=(he.rS I).1.out hf
  refine absurd ?_ hr
  rw[he.dk.bD] at J
  rw[Dk.qV,ax (by rw[k2.dk.alive];decide),ax (by rw[k2.dk.bD];exact not_not_intro ⟨h1,J⟩)]
 |bad bY i f h1 J hl I hf hh hq hr hc =>
  obtain⟨k1,k2,k3,k4,g,k5,k6,k7⟩:=(he.rS I).1.out hf
  rw[he.dk.bD] at J
  exact absurd (k2.dk.good n h1 J) hc
 |load bY i f h1 J hl I hf hh hq hr hc =>
  obtain⟨n1,n2⟩:=he.rS I
  have Ll:vw P (bY,ε.2):=by show P (xR bY) bY.dh ε.2;rw[S7 I,I.dh];exact hv
  have F8:=h.out (ε:=(bY,ε.2)) n1 hf Ll
  grind[P7,dz,outF,eS,jr,Np]
theorem P8 : xR (unpinF π n).2=xR π∧(unpinF π n).2.dh=π.dh:=by
 grind[unpinF,Be]
theorem rT.rd (h:rT N P)(I:mW ε n e b aj)(he:EC N ε)(hv:vw P ε): vw P aj:=by
 cases I<;>grind[kr,P8]
theorem rT.zT (h:rT N P)(I:GRd ε now false n e b aj)(he:EC N ε)(hv:vw P ε): vw P aj:=by
 cases I with
 |arg hn=>exact hv
 |b_ _ _ ho=>cases ho
 |own b J h2 _ hl=>exact hv
 |read e b aj J h2 _ hl I=>exact h.rd I he hv
theorem rT.II (h:rT N P)(I:tO ε now false n b e bH aj)(he:EC N ε)(hv:vw P ε): vw P aj:=by
 cases I with
 |may e c aj I _=>exact h.zT I he hv
 |bad c aj I J=>exact h.zT I he hv
 |done c aj I J=>exact h.zT I he hv
end
def nm (k:Nat)(v:V)(cs:List V): aI:=.xs fun o:Option (Nat×Nat×Nat)=>match o with
 |none=>.pu ((v=.aV∨∃a,v=.sle a)∧cs=[])
 |some (id,len,cap)=>.an (.ro id (.cells cs.length cs true)) (.pu (v=.sl id 0 len (.exact cap)∧cs.length=len*k))
theorem aJ.nm (k:Nat)(v:V)(cs:List V): aJ (Am.nm k v cs):=aJ.xs fun o=>by
 cases o with
 |none=>exact aJ.pu _
 |some x=>exact aJ.an (aJ.ro _ _) (aJ.pu _)
section
variable {v:V} {cs:List V}
theorem Sat.rowAt (s:Sat h S)(J:getA S j=some (nm k v cs)): ((v=.aV∨∃a,v=.sle a)∧cs=[])∨∃id len cap,v=.sl id 0 len (.exact cap)∧cs.length=len*k∧T.get h.tr id=some (.cells cs.length cs true):=by
 obtain⟨m,r,h1,h2,o,I⟩:=s.at J
 cases o with
 |none=>exact .inl I
 |some x=>exact .inr ⟨x.1,x.2.1,x.2.2,I.2.1,I.2.2,h2 _ _ I.1⟩
theorem Sat.IP {n:Nat}{e:TypeId}(s:Sat h S)(J:getA S j=some (nm k v cs))(I:cs.length=n*k)(hk:1≤k)(hu:P.underlying t=some (.slice e)): lenV P h t v=some (.int .i64 n):=by
 rcases s.rowAt J with⟨hv,rfl⟩|⟨id,len,cap,rfl,hl,_⟩
 ·have:n=0:=by
   cases n with
   |zero=>rfl
   |succ n=>simp only[bI,oT,AE] at I;omega
  subst this
  rcases hv with rfl|⟨a,rfl⟩
  ·exact AW hu
  ·simp only[lenV,hu];rfl
 ·have:n=len:=by
   rw[hl] at I
   exact(D_ (by omega) I).symm
  subst this
  exact vU hu
theorem Sat.aaW {e:TypeId}(s:Sat h S)(J:getA S j=some (nm k v cs))(hi:i*k+k≤cs.length)(hk:1≤k)(hu:P.underlying t=some (.slice e))(I:bg P e=some k)(ha:isAggT P e=some true):
  ∃id off,indexAddrV P t v (.int .i64 (i:Int))=some (.ptr id off)∧loadV P h e (.ptr id off)=some (.agg ((cs.drop (i*k)).take k)):=by
 rcases s.rowAt J with⟨_,rfl⟩|⟨id,len,cap,rfl,hl,hg⟩
 ·simp at hi;omega
 ·refine⟨id,i*k,?_,Ys ha I hg rfl hi⟩
  simp only[indexAddrV,hu,I,dm]
  have:i<len:=by
   have h4:i*k+k=(i+1)*k:=by rw[oT,AE]
   rw[h4,hl] at hi
   exact Ep (Ea hi hk)
  rw[show(decide ((0:Int)≤(i:Int))&&decide ((i:Int)<(len:Int)))=true by simp;omega,ag]
  simp
end
def tot : List (List Nat)→Nat
 |[]=>0
 |c::l=>c.length+tot l
theorem sZ {a b:List (List Nat)}: tot (a++b)=tot a+tot b:=by
 induction a<;>grind[tot]
theorem gU : ∀ {cs:List (List Nat)} {i:Nat} {c:List Nat},cs[i]?=some c→tot (cs.take (i+1))=tot (cs.take i)+c.length:=by
 intro cs
 induction cs<;>grind[tot]
theorem xo (h:i≤j): tot (cs.take i)≤tot (cs.take j):=by
 grind[List.take_append_drop,sZ]
theorem jP {cs:List (List Nat)}{i:Nat}: tot (cs.take i)≤tot cs:=by
 grind[sZ,List.take_append_drop]
theorem Wq : ∀ {cs:List (List Nat)} {i:Nat} {c c':List Nat},cs[i]?=some c→c'.length=c.length→∀k,tot ((cs.set i c').take k)=tot (cs.take k):=by
 intro cs
 induction cs with
 |nil=>simp
 |cons x cs I =>
  intro i c c' h J k
  cases i with
  |zero =>
   simp at h;subst h
   cases k<;>grind[tot]
  |succ i=>cases k<;>grind[tot]
theorem dS {l m:List Nat}{a i:Nat}(h:a+m.length≤l.length)(hi:i<a∨a+m.length≤i): (aF l a m)[i]?=l[i]?:=by
 grind[DB]
theorem me {l m:List Nat}{a i:Nat}(h:a+m.length≤l.length)(hi:i<m.length): (aF l a m)[a+i]?=m[i]?:=by
 grind[DB]
theorem dJ {l m:List Nat}{a z:Nat}(h:∀i,a≤i→i<a+z→l[i]?=m[i]?): c9 l a z=c9 m a z:=by
 unfold c9
 congr 1
 apply nC
 simp_all[gh]
theorem Fe {m:List Nat}{b:Nat}(h:a+m.length≤l.length)(I:b+z≤a∨a+m.length≤b): c9 (aF l a m) b z=c9 l b z :=
 by grind[dJ,dS]
theorem qf {l:List Nat}{a z n:Nat}(h:a+z≤l.length)(I:n<256^z): c9 (aF l a (le z n)) a z=n:=by
 have e:((aF l a (le z n)).take (a+z)).drop a=le z n:=by
  apply nC
  simp only[eA,gh]
  grind[me,dH]
 grind[c9,IM,Nat.mod_eq_of_lt]
theorem kJ {l m:List Nat}{i:Nat}(h:l[i]?=m[i]?): l.getD i 0=m.getD i 0:=by grind
structure dX (b:List Nat)(k link extra:Nat)(cs:List (List Nat)): Prop where
 len:b.length=512
 BO:b.getD 13 0=0
 kind:b.getD 12 0=k
 link:c9 b 18 4=link
 extra:c9 b 22 4=extra
 fg:jf b=cs.length
 low:dw b+tot cs=512
 fits:26+4*cs.length+tot cs≤512
 slot:∀i c,cs[i]?=some c→bu b i+tot (cs.take (i+1))=512∧dR b i=c.length∧∀j,j<c.length→b[bu b i+j]?=c[j]?
theorem IQ : ∀(z k:Nat) (t:List Bool),k+z≤t.length→(∀j,k≤j→j<k+z→t.getD j false=false)→∃t',markL z k t=some t'∧t'.length=t.length∧∀j,(j<k∨k+z≤j)→t'.getD j false=t.getD j false:=by
 intro z
 induction z with
 |zero=>intro k t _ _;exact⟨t,rfl,rfl,fun _ _=>rfl⟩
 |succ z I =>
  intro k t J h2
  have hs:∀j,j≠k→(t.set k true).getD j false=t.getD j false:=fun j hj=>by
   grind
  obtain⟨t',e1,e2,e3⟩:=I (k+1) (t.set k true) (by grind) (fun j a b=>by grind)<;>grind[markL]
section
theorem dX.cells (h:dX b k link extra cs): ∀(n i:Nat) (t:List Bool),i+n=cs.length→t.length=512→(∀j,j+tot (cs.take i)<512→t.getD j false=false)→cellsL b (dw b) n i t=true:=by
 intro n
 induction n with
 |zero=>intro i t _ _ _;rfl
 |succ n J =>
  intro i t hi ht hf
  have I:cs[i]?=some (cs[i]'(by omega)):=aG _
  generalize (cs[i]'(by omega))=c at I
  obtain⟨s1,s2,s3⟩:=h.slot i c I
  have h1:=gU I
  have h2:=jP (cs:=cs) (i:=i+1)
  have h3:=h.low
  obtain⟨t',e1,e2,e3⟩:=IQ c.length (bu b i) t (by omega) (fun j _ _=>hf j (by omega))
  rw[cellsL,s2,ax (by omega),e1]
  exact J (i+1) t' (by omega) (by omega) (fun j hj=>by grind)
theorem dX.good (h:dX b k link extra cs): b7 b=true:=by
 have I:=h.low
 have J:=h.fits
 rw[b7,dy h.len,dy h.BO,dy (by rw[h.fg];omega),h.cells _ _ _ (by rw[h.fg];omega) fc fun j hj => ?_]
 ·rfl
 grind
theorem dX.tail (h:dX b k link extra cs)(hl:b'.length=512)(J:b'.drop 12=b.drop 12): dX b' k link extra cs:=by
 have hg:∀i,12≤i→b'[i]?=b[i]?:=fun i hi=>by
  have:=dn (fun l:List Nat=>l[i-12]?) J
  grind
 have I:∀a z,12≤a→c9 b' a z=c9 b a z:=fun a z q=>tP J q
 refine⟨hl,?_,?_,?_,?_,?_,?_,h.fits,fun i c hc => ?_⟩
 ·rw[kJ (hg 13 (by decide))];exact h.BO
 ·rw[kJ (hg 12 (by decide))];exact h.kind
 ·rw[I _ _ (by decide)];exact h.link
 ·rw[I _ _ (by decide)];exact h.extra
 ·rw[jf,I _ _ (by decide)];exact h.fg
 ·rw[dw,I _ _ (by decide)];exact h.low
 ·obtain⟨s1,s2,s3⟩:=h.slot i c hc
  have e1:bu b' i=bu b i:=I _ _ (by omega)
  have e2:dR b' i=dR b i:=I _ _ (by omega)
  have dN:=h.fits
  grind[jP]
def va (k:Nat): List Nat:=aF ((List.replicate 512 0).set 12 k) 16 (le 2 512)
theorem dX.new : dX (va k) k 0 0 []:=by
 have hle:∀n,(le 2 n).length=2:=fun n=>dH 2 n
 have I:∀i,i<16∨18≤i→(va k)[i]?=((List.replicate 512 0).set 12 k)[i]?:=fun i hi=>dS (by grind) (by grind)
 have hz:∀i,i≠12→((List.replicate 512 0).set 12 k)[i]?=(List.replicate 512 0)[i]?:=fun i hi=>kE (by omega)
 have J:∀a z,a+z≤512→(18≤a∨(13≤a∧a+z≤16))→c9 (va k) a z=c9 (List.replicate 512 0) a z:=fun a z h1 h2=>dJ fun i h3 h4=>by grind
 refine⟨by grind[va,bL],?_,?_,?_,?_,?_,?_,by decide,fun i c hc=>(by grind)⟩
 ·rfl
 ·rfl
 ·rfl
 ·rfl
 ·rfl
 ·rfl
def ve (b:List Nat)(x y:Nat): List Nat:=aF (aF b 18 (le 4 x)) 22 (le 4 y)
theorem dX.set (h:dX b k link extra cs){x y:Nat}(hx:x<4294967296)(hy:y<4294967296): dX (ve b x y) k x y cs:=by
 have hlen:=h.len
 have hle:∀n,(le 4 n).length=4:=fun n=>dH 4 n
 have l1:(aF b 18 (le 4 x)).length=512:=by grind[bL]
 have l2:(ve b x y).length=512:=by grind[ve,bL]
 have I:∀i,i<18∨26≤i→(ve b x y)[i]?=b[i]?:=fun i hi=>by
  grind[ve,dS]
 have J:∀a z,a+z≤18∨26≤a→c9 (ve b x y) a z=c9 b a z:=fun a z h2=>dJ fun i h3 h4=>I i (by omega)
 refine⟨l2,?_,?_,?_,?_,?_,?_,h.fits,fun i c hc => ?_⟩
 ·rw[kJ (I 13 (by decide))];exact h.BO
 ·rw[kJ (I 12 (by decide))];exact h.kind
 ·grind[ve,Fe,qf]
 ·grind[ve,qf]
 ·rw[jf,J _ _ (by decide)];exact h.fg
 ·rw[dw,J _ _ (by decide)];exact h.low
 ·obtain⟨s1,s2,s3⟩:=h.slot i c hc
  have e1:bu (ve b x y) i=bu b i:=J _ _ (by omega)
  have e2:dR (ve b x y) i=dR b i:=J _ _ (by omega)
  have dN:=h.fits
  grind[jP]
def ku (b:List Nat)(i f z:Nat): List Nat:=aF (aF b (26+4*i) (le 2 f)) (26+4*i+2) (le 2 z)
section
variable {f:Nat}
theorem wg (I:b.length=512)(hi:30+4*i≤512): (ku b i f z).length=512:=by
 grind[dH,ku,bL]
theorem wj (I:b.length=512)(hi:30+4*i≤512){j:Nat}(J:j<26+4*i∨30+4*i≤j): (ku b i f z)[j]?=b[j]?:=by
 grind[dH,ku,dS,bL]
theorem zV (I:b.length=512)(hi:30+4*i≤512)(J:f<65536)(hz:z<65536): bu (ku b i f z) i=f∧dR (ku b i f z) i=z:=by
 grind[dH,bL,bu,ku,Fe,qf,dR]
end
def xp (b:List Nat)(n lo:Nat)(c:List Nat): List Nat:=ku (aF (aF (aF b 14 (le 2 (n+1))) lo c) 16 (le 2 lo)) n lo c.length
theorem dX.ins (h:dX b k link extra cs){c:List Nat}{lo:Nat}(hf:26+4*(cs.length+1)+(tot cs+c.length)≤512)(jC:lo+(tot cs+c.length)=512): dX (xp b cs.length lo c) k link extra (cs++[c]):=by
 have hlen:=h.len
 have hle:∀n,(le 2 n).length=2:=fun n=>dH 2 n
 have l1:(aF b 14 (le 2 (cs.length+1))).length=512:=by grind[bL]
 have l2:(aF (aF b 14 (le 2 (cs.length+1))) lo c).length=512:=by rw[bL (by omega),l1]
 have l3:(aF (aF (aF b 14 (le 2 (cs.length+1))) lo c) 16 (le 2 lo)).length=512:=by grind[bL]
 have l4:(xp b cs.length lo c).length=512:=wg l3 (by omega)
 have o3:∀i,i<16∨18≤i→(aF (aF (aF b 14 (le 2 (cs.length+1))) lo c) 16 (le 2 lo))[i]?=(aF (aF b 14 (le 2 (cs.length+1))) lo c)[i]?:=fun i hi=>dS (by grind) (by grind)
 have o4:∀i,i<26+4*cs.length∨30+4*cs.length≤i→(xp b cs.length lo c)[i]?=(aF (aF (aF b 14 (le 2 (cs.length+1))) lo c) 16 (le 2 lo))[i]?:=fun i hi=>wj l3 (by omega) hi
 -- what is neither count, low, the slot nor the cell
 have I:∀i,(i<14∨18≤i)→(i<26+4*cs.length∨30+4*cs.length≤i)→(i<lo∨lo+c.length≤i)→(xp b cs.length lo c)[i]?=b[i]?:=fun i h1 h2 h3=>by
  grind[dS]
 have rZ:∀a z,(a+z≤14∨18≤a)→a+z≤26+4*cs.length→c9 (xp b cs.length lo c) a z=c9 b a z:=fun a z h1 h2=>dJ fun i h3 h4=>I i (by omega) (by omega) (by omega)
 have iI:bu (xp b cs.length lo c) cs.length=lo∧dR (xp b cs.length lo c) cs.length=c.length:=zV l3 (by omega) (by omega) (by omega)
 have YX:tot (cs++[c])=tot cs+c.length:=by rw[sZ];simp[tot]
 refine⟨l4,?_,?_,?_,?_,?_,?_,by grind,fun i x J => ?_⟩
 ·rw[kJ (I 13 (by omega) (by omega) (by omega))];exact h.BO
 ·rw[kJ (I 12 (by omega) (by omega) (by omega))];exact h.kind
 ·rw[rZ _ _ (by omega) (by omega)];exact h.link
 ·rw[rZ _ _ (by omega) (by omega)];exact h.extra
 ·have e:c9 (xp b cs.length lo c) 14 2=c9 (aF b 14 (le 2 (cs.length+1))) 14 2:=dJ fun i h1 h2=>by
   grind[dS]
  grind[jf,qf]
 ·have e:c9 (xp b cs.length lo c) 16 2=c9 (aF (aF (aF b 14 (le 2 (cs.length+1))) lo c) 16 (le 2 lo)) 16 2:=dJ fun i h1 h2=>o4 i (by omega)
  grind[dw,qf]
 ·by_cases hi:i<cs.length
  ·rw[qw hi] at J
   obtain⟨s1,s2,s3⟩:=h.slot i x J<;>grind[bu,dR,jP]
  ·have gC:i=cs.length:=by
    grind
   subst gC
   rw[g8 (aM _),gG] at J
   have J:c=x:=bp J
   subst J
   rw[iI.1,iI.2,gd (by simp),YX]
   exact⟨jC,rfl,fun j hj=>by grind[me]⟩
def vf (b:List Nat)(i f:Nat)(c:List Nat): List Nat:=ku (aF b f c) i f c.length
theorem dX.rep (h:dX b k link extra cs)(hc:cs[i]?=some c)(hl:c'.length=c.length): dX (vf b i (bu b i) c') k link extra (cs.set i c'):=by
 obtain⟨s1,s2,s3⟩:=h.slot i c hc
 have hlen:=h.len
 have hi:=(List.getElem?_eq_some_iff.1 hc).1
 have qa:=h.low
 have dN:=h.fits
 have Gb:=jP (cs:=cs) (i:=i+1)
 have IS:=gU hc
 have l1:(aF b (bu b i) c').length=512:=by grind[bL]
 have l2:(vf b i (bu b i) c').length=512:=wg l1 (by omega)
 have o2:∀j,j<26+4*i∨30+4*i≤j→(vf b i (bu b i) c')[j]?=(aF b (bu b i) c')[j]?:=fun j hj=>wj l1 (by omega) hj
 have I:∀j,(j<26+4*i∨30+4*i≤j)→(j<bu b i∨bu b i+c.length≤j)→(vf b i (bu b i) c')[j]?=b[j]?:=fun j h1 h2=>by grind[dS]
 have J:∀a z,(a+z≤26+4*i∨30+4*i≤a)→a+z≤26+4*cs.length→c9 (vf b i (bu b i) c') a z=c9 b a z:=fun a z h1 h2=>dJ fun j h3 h4=>I j (by omega) (by omega)
 have iI:bu (vf b i (bu b i) c') i=bu b i∧dR (vf b i (bu b i) c') i=c'.length:=zV l1 (by omega) (by omega) (by omega)
 have tq:∀k,tot ((cs.set i c').take k)=tot (cs.take k):=Wq hc hl
 have YX:tot (cs.set i c')=tot cs:=by
  have:=tq cs.length
  grind[List.length_set]
 refine⟨l2,?_,?_,?_,?_,?_,?_,by grind,fun j x hx => ?_⟩
 ·rw[kJ (I 13 (by omega) (by omega))];exact h.BO
 ·rw[kJ (I 12 (by omega) (by omega))];exact h.kind
 ·rw[J _ _ (by omega) (by omega)];exact h.link
 ·rw[J _ _ (by omega) (by omega)];exact h.extra
 ·rw[jf,J _ _ (by omega) (by omega),bT];exact h.fg
 ·grind[dw]
 ·rw[tq]
  by_cases tC:i=j
  ·subst tC
   rw[iX hi] at hx
   have hx:c'=x:=bp hx
   subst hx
   rw[iI.1,iI.2]
   exact⟨s1,rfl,fun q hq=>by rw[o2 _ (by omega),me (by omega) hq]⟩
  ·rw[kE tC] at hx
   obtain⟨r1,r2,r3⟩:=h.slot j x hx
   have hj:=(List.getElem?_eq_some_iff.1 hx).1
   have e1:bu (vf b i (bu b i) c') j=bu b j:=J _ _ (by omega) (by omega)
   have e2:dR (vf b i (bu b i) c') j=dR b j:=J _ _ (by omega) (by omega)
   have ht2:=gU hx
   have htj:=jP (cs:=cs) (i:=j+1)
   rw[e1,e2]
   refine⟨r1,r2,fun q hq => ?_⟩
   rw[I _ (by omega) ?_]
   ·grind
   ·rcases El tC with q1|q1
    ·have:=xo (cs:=cs) (i:=i+1) (j:=j) (by omega);omega
    ·have:=xo (cs:=cs) (i:=j+1) (j:=i) (by omega);omega
theorem dX.cell (h:dX b k link extra cs)(I:cs[i]?=some c): (b.drop (bu b i)).take c.length=c:=by
 obtain⟨s1,s2,J⟩:=h.slot i c I
 apply nC
 grind
end
section
variable {v:V} {m:List Nat}
theorem IT {n b:Nat}(my:a≤b)(hb:b≤n): ∃off I,slR (.sl id 0 n cap) a b=.sl id off (b-a) I∧off≤n:=by
 cases cap with
 |exact c =>
  simp only[slR]
  by_cases J:c=a
  ·rw[qy J,ag];exact⟨0,_,rfl,eN _⟩
  ·rw[eD J,aS];exact⟨0+a*1,_,rfl,by omega⟩
 |rest e alt=>exact⟨0+a*1,_,rfl,by omega⟩
theorem LC {n:Nat}{cs:List V}(I:T.get h.tr id=some (.cells n cs false))(ho:off≤n)(hl:cs.length=n): wrN h id off []=some (h.put id (some (.cells n cs false))):=by
 simp only[wrN,I,bI]
 rw[aP.2 (by omega),ag]
 congr 3
 cases J:(Nat.beq off 0&&Nat.beq 0 n) with
 |true =>
  simp only[bF,beq_iff] at J
  rw[ag]
  rw[iz (by omega:cs.length=0)]
 |false=>rw[aS,cO,dA,iY]
theorem P9 (s:Sat h (aQ v l::X::S))(hX:bX X (b5 w m)){b:Nat}(my:a≤b)(hb:b≤l.length)(hl:1≤l.length):
  ∃h',copyV Tryz.prog h 29 (slR v a b) w=some (.int .i64 (min m.length (b-a):Nat),h')∧Sat h' (aQ v (aF l a (m.take (b-a)))::X::S):=by
 by_cases h1:a<b∧1≤m.length
 ·exact H6 s hX h1.1 hb h1.2
 ·have hm:min m.length (b-a)=0:=by omega
  have ht:m.take (b-a)=[]:=iz (by rw[cj];omega)
  have jW:aF l a (m.take (b-a))=l:=by rw[ht,aF];simp
  have hw:=(s.aq (k:=1) rfl hX).2
  have hv:=(s.buf (k:=0) rfl).view
  obtain⟨id,c,cap,rest,rfl,s1,hc,hf⟩:=s.dP hl
  obtain⟨off,Ml,e1,e2⟩:=IT (id:=id) (cap:=cap) my hb
  rw[e1,jW,hm]
  have hg:=s1.row (k:=0) rfl
  have H9:=LC (off:=off) hg (by omega) (by rw[aX,cQ];exact hc)
  have J:Sat (h.put id (some (.cells c (ofBytes l++rest) false))) (aQ (.sl id 0 l.length cap) l::X::S):=hf _ _ rfl hv.1 (s1.put (k:=0) rfl)
  rcases hw with⟨rfl|⟨x,rfl⟩,_⟩|⟨F7,I,H7,n2,tH,st2,rfl,H8,q1,q2,q3,q4⟩
  ·exact⟨h,by simp only[copyV,ak,d_];rfl,s⟩
  ·exact⟨h,by simp only[copyV,ak,d_];rfl,s⟩
  ·refine⟨_,?_,J⟩
   have hr:rdN h F7 I 0=some []:=by
    simp only[rdN,H8,dA]
    rw[aP.2 (by omega),ag]
    cases hq:(Nat.beq I 0&&Nat.beq 0 n2) with
    |true =>
     simp only[bF,beq_iff] at hq
     rw[ag,iz (by omega:tH.length=0)]
    |false=>rw[aS,sJ]
   simp only[copyV,ak,d_]
   rw[show Nat.min m.length (b-a)=0 from hm,jY,hr]
   simp only
   rw[H9]
theorem Gg (s:Sat h (aQ v l::S)){b:Nat}(ha:a≤l.length)(hb:b≤l.length)(hl:1≤l.length):
  ∃h',copyV Tryz.prog h 29 (slR v a a) (slR v b b)=some (.int .i64 0,h')∧Sat h' (aQ v l::S):=by
 have hv:=(s.buf (k:=0) rfl).view
 obtain⟨id,c,cap,rest,rfl,s1,hc,hf⟩:=s.dP hl
 obtain⟨off,Ml,e1,e2⟩:=IT (id:=id) (cap:=cap) (aM _) ha
 obtain⟨I,H7,e3,e4⟩:=IT (id:=id) (cap:=cap) (aM _) hb
 rw[e1,e3]
 have hg:=s1.row (k:=0) rfl
 have hle:(ofBytes l++rest).length=c:=by rw[aX,cQ];exact hc
 have J:=LC (off:=off) hg (by omega) hle
 refine⟨_,?_,hf _ _ rfl hv.1 (s1.put (k:=0) rfl)⟩
 have hr:rdN h id I 0=some []:=by
  simp only[rdN,hg,dA]
  rw[aP.2 (by omega),ag]
  cases hq:(Nat.beq I 0&&Nat.beq 0 c) with
  |true =>
   simp only[bF,beq_iff] at hq
   rw[ag,iz (by omega:(ofBytes l++rest).length=0)]
  |false=>rw[aS,sJ]
 simp only[copyV,ak,d_,gG]
 rw[show Nat.min 0 0=0 from rfl,jY,hr]
 simp only
 rw[J]
 rfl
end
section
variable {o:Oper} {v:V} {m:List Nat}
theorem OpR.G8 {b:Nat}(hP:C.P=Tryz.prog)(s:Sat h (aQ v l::X::S))(hX:bX X (b5 u m))(I:o.op=.call cl)(hc:cl.callee=.builtin .copy)(J:cl.argTypes = #[29,29])(ha:lookArgs E cl.args.toList=some [slR v a b,u])
 (my:a≤b)(hb:b≤l.length)(hl:1≤l.length): OpR C E h o fun _ h₁=>Sat h₁ (aQ v (aF l a (m.take (b-a)))::X::S):=by
 obtain⟨h₁,e1,e2⟩:=P9 s hX my hb hl
 refine OpR.builtin I hc ha ⟨.int .i64 (min m.length (b-a):Nat),h₁,?_,e2⟩
 simp only[builtinV,hP,J,e1]
theorem OpR.aaX {b:Nat}(hP:C.P=Tryz.prog)(s:Sat h (aQ v l::S))(I:o.op=.call cl)(hc:cl.callee=.builtin .copy)(J:cl.argTypes = #[29,29])(hx:lookArgs E cl.args.toList=some [slR v a a,slR v b b])
 (ha:a≤l.length)(hb:b≤l.length)(hl:1≤l.length): OpR C E h o fun _ h₁=>Sat h₁ (aQ v l::S):=by
 obtain⟨h₁,e1,e2⟩:=Gg s ha hb hl
 refine OpR.builtin I hc hx ⟨.int .i64 0,h₁,?_,e2⟩
 simp only[builtinV,hP,J,e1]
end
section
variable {told:cy} {v:V}
theorem qg (I:W told){f:Nat}(s:Sat h (aQ v b::S))(hl:b.length=512)(hi:30+4*i≤512)(hf:f<65536)(hz:z<65536):
  Call ⟨Tryz.prog,told⟩ 122 [.agg [v],.int .i64 (i:Int),.int .i64 (f:Int),.int .i64 (z:Int)] h fun r h'=>r=.aW []∧Sat h' (aQ v (ku b i f z)::S):=by
 have hle:∀n,(le 2 n).length=2:=fun n=>dH 2 n
 have l1:(aF b (26+4*i) (le 2 f)).length=512:=by rw[bL (by rw[hle];omega),hl]
 obtain⟨lz,_,cap,_,rfl,_⟩:=s.dP (by omega)
 have J:(26:Int)+4*(i:Int)=((26+4*i:Nat):Int):=by omega
 have e2:(26:Int)+4*(i:Int)+2=((26+4*i+2:Nat):Int):=by omega
 refine Call.of_wp (I.free _ rfl) Tryz.func122 rfl rfl (zg rfl ?_)
 refine aA.cB s rfl rfl rfl (fH rfl rfl) (fun p4 h s => ?_)
 refine zk 4 rfl (zb rfl (by exact jq (ay (by omega) (by omega))) ?_)
 refine zb rfl (by exact aO (ay (by omega) (by omega))) ?_
 refine zk 4 rfl (zl rfl (s.cg (k:=0) rfl br aU) (zk 2 rfl (zo rfl (b8 rfl (by exact jN bP dQ (gY (by omega) (by omega)))) ?_)))
 rw[J]
 refine zc rfl (ng (a:=26+4*i) (z:=2) (n:=f) I (s.ae [1]) (by decide) (by decide) (by omega) (by omega)) ?_
 rintro r h ⟨rfl,s⟩
 have s:=s.ae [1,0]
 refine zk 2 rfl (zl rfl (s.cg (k:=0) rfl br aU) (zm rfl (zo rfl (az (r:=.int .i64 ((26+4*i+2:Nat):Int)) rfl rfl (by rw[←e2,←J];exact aO (ay (by omega) (by omega)))) ?_)))
 refine zm rfl (zo rfl (b8 rfl (by exact jN bP dQ (gY (by omega) (by omega)))) ?_)
 refine zc rfl (ng (a:=26+4*i+2) (z:=2) (n:=z) I (s.ae [1]) (by decide) (by decide) (by omega) (by omega)) ?_
 rintro r h ⟨rfl,s⟩
 exact zv ⟨aa,_,rfl,rfl,s.del 1⟩
theorem Ff (hT:W told)(s:Sat h S)(hk:getA S k=some X)(hX:bX X (b5 v b))(J:dX b kd link extra cs)(hc:cs[i]?=some c):
  Call ⟨Tryz.prog,told⟩ 187 [.agg [v],.int .i64 (i:Int)] h fun r h'=>∃f,r=slR3 v f (f+c.length) (f+c.length)∧bX X (b5 r c)∧Sat h' S:=by
 have hv:=s.aq hk hX
 have hl:=J.len
 have hi:=(List.getElem?_eq_some_iff.1 hc).1
 have dN:=J.fits
 have qa:=J.low
 obtain⟨s1,s2,s3⟩:=J.slot i c hc
 have Gb:=jP (cs:=cs) (i:=i+1)
 have IS:=gU hc
 have I:=J.cell hc
 generalize hf:bu b i=f at s1 s3 I
 obtain⟨pi,po,pc,rfl⟩:=gp hv (by omega)
 refine Call.of_wp (hT.free _ rfl) Tryz.func187 rfl rfl (zg rfl ?_)
 refine aA.cB s rfl rfl rfl (fH rfl rfl) (fun p2 h s => ?_)
 refine zk 4 rfl (zl rfl (s.cg (k:=0) rfl br aU) (zm rfl (zc rfl (qF hT s (jA hk) hX hl (by omega)) ?_)))
 rintro r h' ⟨rfl,s⟩
 rw[hf,s2]
 refine zk 8 rfl (zY s 0 dZ ah rfl (zk 3 rfl (zb rfl (by exact aO (ay (by omega) (by omega))) ?_)))
 refine zk 2 rfl (zb rfl (by exact aO (ay (by omega) (by omega))) ?_)
 have e1:(f:Int)+(c.length:Int)=((f+c.length:Nat):Int):=by omega
 have iI:=qU (s.aq (jA hk) hX) (a:=f) (b:=f+c.length) (c:=f+c.length) (by omega) (aM _) (by omega) (by omega)
 rw[e1]
 refine zo rfl (bS (p:=some (.int .i64 (f:Int))) (q:=some (.int .i64 ((f+c.length:Nat):Int))) (m:=some (.int .i64 ((f+c.length:Nat):Int))) (p':=some f) (q':=some (f+c.length)) (m':=some (f+c.length)) rfl rfl rfl rfl (by rw[b9 (by omega)];rfl) (by rw[b9 (by omega)];rfl) (by rw[b9 (by omega)];rfl) iI) ?_
 refine zk 2 rfl (WP.ret ⟨aa,_,rfl,?_⟩)
 refine⟨f,rfl,?_,s.drop⟩
 have:=yQ hX (a:=f) (b:=f+c.length) (c:=f+c.length) (by omega) (aM _) (by omega) (by omega)
 rw[kF,show f+c.length-f=c.length by omega,I] at this
 exact this
theorem Ws (J:W told)(s:Sat h S)(hk:getA S k=some X)(hX:bX X (b5 v b))(I:dX b kd link extra cs):
  Call ⟨Tryz.prog,told⟩ 125 [.agg [v]] h fun r h'=>r=.int .i64 (486-(4*(cs.length:Int)+(tot cs:Int)))∧Sat h' S:=by
 have hv:=s.aq hk hX
 have hl:=I.len
 have dN:=I.fits
 have qa:=I.low
 obtain⟨pi,po,pc,rfl⟩:=gp hv (by omega)
 refine Call.of_wp (J.free _ rfl) Tryz.func125 rfl rfl (zg rfl ?_)
 refine aA.cB s rfl rfl rfl (fH rfl rfl) (fun p1 h s => ?_)
 refine zk 3 rfl ?_
 have s0:=s
 refine WP.drawn [none,none,some (1,2),some (0,2),af,af,af,af] rfl (by kernel_rfl) (by kernel_rfl) ?_
 refine zL rfl (s.cg (k:=0) rfl br aU) (aE.any rfl rfl rfl rfl (OpR.call rfl rfl rfl rfl (yW J s (jA hk) hX hl)) ?_)
 rintro r h' ⟨rfl,s⟩
 have s1:=s
 refine zO rfl (az rfl rfl (by exact ei (ay (by omega) (by omega)))) ?_
 refine zL rfl (s.cg (k:=0) rfl br aU) (aE.any rfl rfl rfl rfl (OpR.call rfl rfl rfl rfl (fJ J s (jA hk) hX hl)) ?_)
 rintro r h' ⟨rfl,s⟩
 rw[I.fg]
 refine zO rfl (az rfl rfl (by exact jq (ay (by omega) (by omega)))) ?_
 refine zO rfl (az rfl rfl (by exact ei (ay (by omega) (by omega)))) ?_
 refine zA rfl ?_
 refine aE.nil ⟨⟨aa,aa,fun _ _=>.inr ⟨rfl,⟨_,az rfl rfl (by exact ei (ay (by omega) (by omega)))⟩,bj _ rfl⟩,ga (.inr ⟨rfl,⟨_,o_load rfl (s0.cg (k:=0) rfl br aU)⟩,bj _ rfl⟩) (.inr ⟨rfl,⟨_,o_load rfl (s1.cg (k:=0) rfl br aU)⟩,bj _ rfl⟩),aa,aa,aa,aa,aa⟩,?_⟩
 refine WP.ret ⟨aa,_,rfl,?_⟩
 exact⟨dn (V.int .i64) (by omega),s.drop⟩
noncomputable def pfL : Code:=cE [1,1,0,1,0,0] ((Tryz.f123.body).getD .skip)
theorem Nq (hT:W told)(hX:bX X (b5 x b))(FW:x.cells=[x])(J:dX b kd link extra cs): ∀(m i:Nat) (h:H) (E:List (Nat×V)) (Q:Ex→List (Nat×V)→H→Prop),i+m=cs.length →
  Sat h (pt p1 (.cells 1 [x] false)::X::S)→Has E [(1,.ptr p1 0),(3,.int .i64 (486-(4*(cs.length:Int)+(tot (cs.take i):Int)))),(12,.int .i64 (cs.length:Int)),(13,.int .i64 (i:Int))] →
  (∀E' h',Has E' [(3,.int .i64 (486-(4*(cs.length:Int)+(tot cs:Int))))]→Sat h' (pt p1 (.cells 1 [x] false)::X::S)→Q (.exit 0) E' h')→WP ⟨Tryz.prog,told⟩ 27 (.loop pfL) E h Q:=by
 have hl:=J.len
 have dN:=J.fits
 intro m
 induction m with
 |zero =>
  intro i h E Q hi s hE hq
  refine WP.loop (WP.has hE (zg rfl (zC rfl aL (by simp<;>omega) ?_)))
  refine zk 3 rfl (WP.exit ?_)
  refine hq _ _ ⟨?_,aa⟩ s
  rw[show cs.take i=cs from gd (by omega)]
  rfl
 |succ m ih =>
  intro i h E Q hi s hE hq
  have I:cs[i]?=some (cs[i]'(by omega)):=aG _
  generalize (cs[i]'(by omega))=c at I
  obtain⟨s1,s2,s3⟩:=J.slot i c I
  have Gb:=jP (cs:=cs) (i:=i+1)
  have IS:=gU I
  refine WP.loop (WP.has hE (zg rfl (zB rfl aL (by simp<;>omega) ?_)))
  refine zk 5 rfl (WP.block (zK 7 rfl (zl rfl (s.cg (k:=0) rfl br aU) (zm rfl (zc rfl (qF hT (i:=i) s (k:=1) rfl hX hl (by omega)) ?_)))))
  rintro r h' ⟨rfl,s⟩
  rw[s2]
  refine zk 9 rfl (zb rfl (by exact ei (ay (by omega) (by omega))) ?_)
  refine za rfl (zv (zr rfl (zb rfl (by exact aO (ay (by omega) (by omega))) ?_)))
  refine zm rfl (zv ?_)
  refine ih (i+1) _ _ Q (by omega) s ⟨rfl,?_,rfl,rfl,aa⟩ hq
  exact dn (fun z=>some (V.int .i64 z)) (by omega)
theorem S8 (J:W told)(s:Sat h (X::S))(hX:bX X (b5 v b))(I:dX b kd link extra cs):
  Call ⟨Tryz.prog,told⟩ 123 [.agg [v]] h fun r h'=>r=.int .i64 (486-(4*(cs.length:Int)+(tot cs:Int)))∧Sat h' (X::S):=by
 have hv:=s.aq (k:=0) rfl hX
 have hl:=I.len
 have dN:=I.fits
 obtain⟨pi,po,pc,rfl⟩:=gp hv (by omega)
 refine Call.of_wp (J.free _ rfl) Tryz.func123 rfl rfl (zg rfl ?_)
 refine aA.cB s rfl rfl rfl (fH rfl rfl) (fun p1 h s => ?_)
 refine zk 4 rfl (zl rfl (s.cg (k:=0) rfl br aU) (zc rfl (fJ J s (k:=1) rfl hX hl) ?_))
 rintro r h' ⟨rfl,s⟩
 rw[I.fg]
 refine zb rfl (by exact jq (ay (by omega) (by omega))) ?_
 refine zb rfl (by exact ei (ay (by omega) (by omega))) ?_
 refine zk 5 rfl (zl rfl (s.cg (k:=0) rfl br aU) (zc rfl (fJ J s (k:=1) rfl hX hl) ?_))
 rintro r h' ⟨rfl,s⟩
 rw[I.fg]
 refine zk 2 rfl (WP.block ?_)
 refine Nq J hX rfl I cs.length 0 _ _ _ (by omega) s ⟨rfl,?_,rfl,rfl,aa⟩ (fun E' h' hE s' => ?_)
 ·exact dn (fun z=>some (V.int .i64 z)) (by have:tot (cs.take 0)=0:=rfl;omega)
 have s:=s'
 exact WP.has hE (zK 5 rfl (WP.ret ⟨aa,_,rfl,rfl,s.del 0⟩))
theorem Ce (I:W told){lo:Nat}(s:Sat h (aQ v b::X::S))(J:bX X (b5 x c))(hl:b.length=512)(hi:30+4*i≤512)(jC:dw b=lo+c.length)(Nr:lo+c.length≤512):
  Call ⟨Tryz.prog,told⟩ 127 [.agg [v],.int .i64 (i:Int),x] h fun r h'=>r=.aW []∧Sat h' (aQ v (ku (aF (aF b lo c) 16 (le 2 lo)) i lo c.length)::X::S):=by
 have hle:∀n,(le 2 n).length=2:=fun n=>dH 2 n
 have l1:(aF b lo c).length=512:=by rw[bL (by omega),hl]
 have l2:(aF (aF b lo c) 16 (le 2 lo)).length=512:=by rw[bL (by rw[hle];omega),l1]
 obtain⟨lz,_,cap,_,rfl,_⟩:=s.dP (by omega)
 have hxv:=s.aq (k:=1) rfl J
 have hx:=hxv.cells
 refine Call.of_wp (I.free _ rfl) Tryz.func127 rfl rfl (zg rfl ?_)
 refine aA.cB s rfl rfl rfl (fH rfl rfl) (fun p3 h s => ?_)
 refine zk 3 rfl (zl rfl (s.cg (k:=0) rfl br aU) (zc rfl (yW I s (k:=1) rfl (aK _ _) hl) ?_))
 rintro r h' ⟨rfl,s⟩
 rw[jC]
 refine zm rfl (zo rfl (aC rfl rfl rfl (au ak (s.aq (k:=2) rfl J))) (zo rfl (az (r:=.int .i64 (lo:Int)) rfl rfl (by rw[show((lo:Nat):Int)=((lo+c.length:Nat):Int)-(c.length:Int) by omega];exact ei (ay (by omega) (by omega)))) ?_))
 refine zk 4 rfl (zY s 0 dZ ah rfl (zm rfl ?_))
 have iI:=gJ (s.aq (k:=1) rfl (aK _ _)) (a:=lo) (by omega)
 refine zo rfl (bS (p:=some (.int .i64 (lo:Int))) (q:=none) (m:=none) (p':=some lo) (q':=none) (m':=none) rfl rfl rfl rfl (by rw[b9 (by omega)];rfl) rfl rfl iI.1) ?_
 refine zm rfl (aA.any rfl rfl rfl (OpR.G8 rfl (s.ae [1,1]) J rfl rfl rfl rfl (by omega) (aM _) (by omega)) ?_)
 intro r h s
 rw[gd (by omega)] at s
 have s:=s.ae [2,0,0]
 refine zk 3 rfl (zl rfl (s.cg (k:=0) rfl br aU) (zm rfl (zo rfl (b8 rfl (by exact jN bP dQ (gY (by omega) (by omega)))) ?_)))
 refine zc rfl (ng (a:=16) (z:=2) (n:=lo) I (s.ae [1]) (by decide) (by decide) (by omega) (by omega)) ?_
 rintro r h ⟨rfl,s⟩
 have s:=s.ae [1,0,0]
 refine zk 2 rfl (zl rfl (s.cg (k:=0) rfl br aU) (zk 3 rfl (zo rfl (aC rfl rfl rfl (au ak (s.aq (k:=2) rfl J))) (zc rfl (qg (i:=i) (f:=lo) (z:=c.length) I (s.ae [1]) l2 hi (by omega) (by omega)) ?_))))
 rintro r h ⟨rfl,s⟩
 exact zv ⟨aa,_,rfl,rfl,s.del 1⟩
end
section
variable {told:cy} {v:V}
theorem Gh (hT:W told)(s:Sat h S)(DC:kd≤255):
  Call ⟨Tryz.prog,told⟩ 166 [.int .i64 (kd:Int)] h fun r h'=>∃u,r=.aW [u,.int .i64 0]∧Sat h' (aQ u (va kd)::S):=by
 refine Call.of_wp (hT.free _ rfl) Tryz.func166 rfl rfl (zK 9 rfl (zC rfl aL (by simp) ?_))
 refine zk 2 rfl (zC rfl cL (by simp;omega) ?_)
 refine zk 6 rfl (aA.any rfl rfl rfl (OpR.G6 rfl s rfl rfl rfl rfl (by decide)) ?_)
 intro u h s
 have hl:(List.replicate 512 0).length=512:=fc
 have hn:va kd=aF ((List.replicate 512 0).set 12 kd) 16 (le 2 512):=rfl
 generalize List.replicate 512 0=l at hl hn s
 obtain⟨lz,_,cap,_,rfl,_⟩:=s.dP (by omega)
 refine zo rfl (cP rfl (by rw[wV];rfl)) ?_
 refine aA.cB s rfl rfl rfl (cF iJ) (fun p4 h s => ?_)
 refine zS rfl (s.iK (j:=0) rfl aU rfl rfl) (fun h s => ?_)
 refine zk 3 rfl (zY s 0 dZ ah rfl (zm rfl (zo rfl (b8 rfl (by exact jN bP Tryz.underlying5 (ru (by omega) (by omega)))) ?_)))
 have s:=s.ae [1,0]
 obtain⟨J,I,e3,h2,e4,s2⟩:=gD s (i:=12) (b:=kd) (by omega) (by omega)
 have iq:(l.set 12 kd).length=512:=by rw[bT,hl]
 refine zo rfl (bx (r:=.ptr J I) rfl rfl e3) (zS rfl (⟨h2,e4,s2⟩) ?_)
 rintro h s
 have s:=s.ae [1,0]
 refine zk 3 rfl (zl rfl (s.cg (k:=0) rfl br aU) (zc rfl (ng (a:=16) (z:=2) (n:=512) hT (s.ae [1]) (by decide) (by decide) (by omega) (by omega)) ?_))
 rintro r h ⟨rfl,s⟩
 have s:=s.ae [1,0]
 refine zk 3 rfl (zY s 0 dZ ah rfl (zk 3 rfl (WP.ret ⟨aa,_,rfl,?_⟩)))
 refine⟨_,rfl,?_⟩
 rw[hn]
 exact s.drop
theorem IU (J:W told)(s:Sat h S)(I:kd≤255):
  Call ⟨Tryz.prog,told⟩ 166 [.int .i64 (kd:Int)] h fun r h'=>∃u b,r=.aW [u,.int .i64 0]∧dX b kd 0 0 []∧Sat h' (aQ u b::S) :=
 (Gh J s I).mono fun r h' ⟨u,e,s⟩=>⟨u,_,e,dX.new (k:=kd),s⟩
theorem LF (I:W told){lk ex:Nat}(s:Sat h (X::S))(hX:bX X (b5 v b))(J:dX b kd link extra cs)(IV:lk<4294967296)(hex:ex<4294967296):
  Call ⟨Tryz.prog,told⟩ 167 [v,.int .i64 (lk:Int),.int .i64 (ex:Int)] h fun r h'=>∃u b',r=.aW [u,.int .i64 0]∧dX b' kd lk ex cs∧Sat h' (aQ u b'::X::S):=by
 have hl:=J.len
 have hle:∀n,(le 4 n).length=4:=fun n=>dH 4 n
 have l1:(aF b 18 (le 4 lk)).length=512:=by rw[bL (by rw[hle];omega),hl]
 refine Call.of_wp (I.free _ rfl) Tryz.func167 rfl rfl (zK 8 rfl (zc rfl (pn I s hX (by omega)) ?_))
 rintro r h' (⟨hg,u,rfl,s⟩|⟨hg,rfl,s⟩)
 ·obtain⟨lz,_,cap,_,rfl,_⟩:=s.dP (by omega)
  refine zk 3 rfl ?_
  refine aA.cB s rfl rfl rfl (cF iJ) (fun p8 h s => ?_)
  dsimp only[V.cells,List.length_cons,List.length_nil,Nat.reduceAdd] at s
  refine zS rfl (s.iK (j:=0) rfl aU rfl rfl) (fun h s => ?_)
  dsimp only[setA] at s
  refine zk 3 rfl (WP.block (zK 3 rfl (zC rfl aN (rfl) (zk 6 rfl (zC rfl aL (by simp) ?_)))))
  refine zk 2 rfl (zC rfl cL (by simp;omega) ?_)
  refine zk 3 rfl (zC rfl aL (by simp) ?_)
  refine zk 3 rfl (zC rfl cL (by simp;omega) ?_)
  refine zk 2 rfl (zv (zj rfl (WP.skip (zg rfl (zl rfl (by exact s.cg (k:=0) rfl br aU) ?_)))))
  refine zm rfl (zo rfl (b8 rfl (by exact jN bP dQ (gY (by omega) (by omega)))) ?_)
  refine zc rfl (ng (a:=18) (z:=4) (n:=lk) I (s.ae [1]) (by decide) (by decide) (by omega) (by omega)) ?_
  rintro r h' ⟨rfl,s⟩
  have s:=s.ae [1,0]
  refine zk 3 rfl (zl rfl (s.cg (k:=0) rfl br aU) (zm rfl (zo rfl (b8 rfl (by exact jN bP dQ (gY (by omega) (by omega)))) ?_)))
  refine zc rfl (ng (a:=22) (z:=4) (n:=ex) I (s.ae [1]) (by decide) (by decide) (by omega) (by omega)) ?_
  rintro r h' ⟨rfl,s⟩
  have s:=s.ae [1,0]
  exact zk 3 rfl (zY s 0 dZ ah rfl (zk 3 rfl (WP.ret ⟨aa,_,rfl,_,_,rfl,J.set IV hex,s.drop⟩)))
 ·rw[J.good] at hg;cases hg
theorem uG (J:W told)(s:Sat h (X::S))(I:bX X (b5 v l))(hl:l.length<1073741824):
  Call ⟨Tryz.prog,told⟩ 202 [v] h fun r h'=>Sat h' (aQ r l::X::S):=by
 have hv:=s.aq (k:=0) rfl I
 refine Call.of_wp (J.free _ rfl) Tryz.func202 rfl rfl (zK 7 rfl (zo rfl (aC rfl rfl rfl (au ak (s.aq (k:=0) rfl I))) (aA.any rfl rfl rfl (OpR.rC rfl s rfl rfl rfl rfl (by omega)) ?_)))
 intro u h s
 refine zm rfl (aA.any rfl rfl rfl (OpR.lX rfl s I rfl rfl rfl rfl (by simp;omega)) ?_)
 intro u2 h s
 rw[cO] at s
 exact zk 2 rfl (WP.ret ⟨aa,_,rfl,s⟩)
theorem S9 (I:W told)(s:Sat h (X::S))(hX:bX X (b5 v b))(J:dX b kd link extra cs)(hc:cs[i]?=some c):
  Call ⟨Tryz.prog,told⟩ 164 [v,.int .i64 (i:Int)] h fun r h'=>∃u,r=.aW [u,.int .i64 0]∧Sat h' (aQ u c::X::S):=by
 have hl:=J.len
 have hv:=s.aq (k:=0) rfl hX
 have hi:=(List.getElem?_eq_some_iff.1 hc).1
 have dN:=J.fits
 have Gb:=jP (cs:=cs) (i:=i+1)
 have IS:=gU hc
 obtain⟨pi,po,pc,rfl⟩:=gp hv (by omega)
 refine Call.of_wp (I.free _ rfl) Tryz.func164 rfl rfl (zK 8 rfl (zc rfl (rE I s hX (by omega)) ?_))
 rintro r h' ⟨s,(⟨hg,rfl⟩|⟨hg,rfl⟩)⟩
 ·refine aA.op rfl rfl rfl (bV rfl) ?_
  refine zk 2 rfl ?_
  refine aA.cB s rfl rfl rfl (cF iJ) (fun p6 h s => ?_)
  dsimp only[V.cells,List.length_cons,List.length_nil,Nat.reduceAdd] at s
  refine zS rfl (s.iK (j:=0) rfl aU rfl rfl) (fun h s => ?_)
  dsimp only[setA] at s
  refine zk 3 rfl (WP.block (zK 3 rfl (zC rfl aN (rfl) (zk 6 rfl (zC rfl aL (by simp) ?_)))))
  refine zk 2 rfl (zl rfl (s.cg (k:=0) rfl br aU) (zc rfl (fJ I s (k:=1) rfl hX hl) ?_))
  rintro r h' ⟨rfl,s⟩
  rw[J.fg]
  refine zC rfl kC (by simp;omega) ?_
  refine zk 2 rfl (zv (zj rfl (WP.skip (zg rfl (zl rfl (by exact s.cg (k:=0) rfl br aU) ?_)))))
  refine zm rfl (zc rfl (Ff (i:=i) I s (k:=1) rfl hX J hc) ?_)
  rintro r h' ⟨f,rfl,hr,s⟩
  refine zc rfl (uG I (s.ae [1]) hr (by omega)) ?_
  intro u h s
  exact zk 3 rfl (WP.ret ⟨aa,_,rfl,_,rfl,s.del 2⟩)
 ·rw[J.good] at hg;cases hg
end
theorem tQ : ∃i,Tryz.prog.info? 29=some i∧i.size=1∧i.bytes=24 :=
 ⟨_,(show Tryz.prog.info? 29=some ((Tryz.prog.info? 29).getD default) by kernel_rfl),by kernel_rfl,by kernel_rfl⟩
section
variable {told:cy} {v:V}
theorem LG (I:W told)(s:Sat h (X::Y::S))(hX:bX X (b5 v b))(hY:bX Y (b5 x c))(hp:dX b kd link extra cs)(hf:26+4*(cs.length+1)+(tot cs+c.length)≤512):
  Call ⟨Tryz.prog,told⟩ 53 [v,.int .i64 (cs.length:Int),x] h fun r h'=>∃u b',r=.aW [u,.int .i64 0]∧dX b' kd link extra (cs++[c])∧Sat h' (aQ u b'::X::Y::S):=by
 have hl:=hp.len
 have qa:=hp.low
 have hle:∀n,(le 2 n).length=2:=fun n=>dH 2 n
 generalize hn:cs.length=n at hf
 have J:=hp.fg
 have jC:∃lo,lo+(tot cs+c.length)=512:=⟨512-(tot cs+c.length),by omega⟩
 obtain⟨lo,jC⟩:=jC
 have l1:(aF b 14 (le 2 (n+1))).length=512:=by grind[bL]
 have iq:dw (aF b 14 (le 2 (n+1)))=lo+c.length:=by
  grind[dw,Fe]
 refine Call.of_wp (I.free _ rfl) Tryz.func53 rfl rfl (zK 8 rfl (zc rfl (pn I s hX (by omega)) ?_))
 rintro r h' (⟨hg,u,rfl,s⟩|⟨hg,rfl,s⟩)
 ·obtain⟨lz,_,cap,_,rfl,_⟩:=s.dP (by omega)
  refine zk 3 rfl ?_
  refine aA.cB s rfl rfl rfl (cF iJ) (fun p8 h s => ?_)
  dsimp only[V.cells,List.length_cons,List.length_nil,Nat.reduceAdd] at s
  refine zS rfl (s.iK (j:=0) rfl aU rfl rfl) (fun h s => ?_)
  dsimp only[setA] at s
  refine zk 3 rfl (WP.block (zK 3 rfl (zC rfl aN (rfl) (zk 6 rfl (zC rfl aL (by simp) ?_)))))
  refine zk 2 rfl (zl rfl (s.cg (k:=0) rfl br aU) (zc rfl (fJ I s (k:=1) rfl (aK _ _) hl) ?_))
  rintro r h' ⟨rfl,s⟩
  rw[J,hn]
  refine zC rfl cL (by simp) ?_
  refine zk 6 rfl (zl rfl (s.cg (k:=0) rfl br aU) (zc rfl (S8 I (s.ae [1]) (aK _ _) hp) ?_))
  rintro r h' ⟨rfl,s⟩
  have s:=s.ae [1,0]
  dsimp only[aT,bringA,getA] at s
  rw[hn]
  refine zm rfl (zo rfl (aC rfl rfl rfl (au ak (s.aq (k:=3) rfl hY))) (zb rfl (by exact aO (ay (by omega) (by omega))) ?_))
  refine zC rfl aL (by grind) ?_
  refine za rfl (zv (zj rfl (WP.skip (zw (zg rfl (zl rfl (by exact s.cg (k:=0) rfl br aU) ?_))))))
  refine zc rfl (Ws I s (k:=1) rfl (aK _ _) hp) ?_
  rintro r h' ⟨rfl,s⟩
  rw[hn]
  refine zm rfl (zo rfl (aC rfl rfl rfl (au ak (s.aq (k:=3) rfl hY))) (zb rfl (by exact aO (ay (by omega) (by omega))) ?_))
  refine zC rfl aL (by grind) ?_
  refine zv (zj rfl (WP.skip (zg rfl (zl rfl (by exact s.cg (k:=0) rfl br aU) ?_))))
  refine zc rfl (fJ I s (k:=1) rfl (aK _ _) hl) ?_
  rintro r h' ⟨rfl,s⟩
  rw[J,hn]
  refine zk 3 rfl ?_
  have q1:((26:Int)+4*((n:Int)+1)).toNat=30+4*n:=by omega
  have q2:((26:Int)+4*(n:Int)).toNat=26+4*n:=by omega
  have s0:=s
  refine WP.drawn [af,af,af,af,af,af,af,af,af,af,af,af,af,af,af,af,af,af,af,af,af] rfl (by kernel_rfl) (by kernel_rfl) ?_
  refine zF rfl (dZ _ _) (zL rfl (s.ld (k:=0) rfl ah rfl) (zM rfl (zO rfl (az rfl rfl (by exact aO (ay (by omega) (by omega)))) ?_)))
  refine zO rfl (az rfl rfl (by exact jq (ay (by omega) (by omega)))) ?_
  refine zO rfl (az rfl rfl (by exact aO (ay (by omega) (by omega)))) ?_
  refine zM rfl (zO rfl (az rfl rfl (by exact aO (ay (by omega) (by omega)))) ?_)
  refine zO rfl (az rfl rfl (by exact jq (ay (by omega) (by omega)))) ?_
  refine zO rfl (az rfl rfl (by exact aO (ay (by omega) (by omega)))) ?_
  refine zO rfl (bS (p:=some (.int .i64 (26+4*((n:Int)+1)))) (q:=some (.int .i64 (26+4*((n:Int)+1)))) (m:=none) (p':=some (30+4*n)) (q':=some (30+4*n)) (m':=none) rfl rfl rfl rfl (by rw[b9 (by omega),q1]) (by rw[b9 (by omega),q1]) rfl (fI (s.buf (k:=1) rfl).view (aM _) (by omega)).1) ?_
  refine zF rfl (dZ _ _) (zL rfl (s.ld (k:=0) rfl ah rfl) (zM rfl (zO rfl (az rfl rfl (by exact jq (ay (by omega) (by omega)))) ?_)))
  refine zO rfl (az rfl rfl (by exact aO (ay (by omega) (by omega)))) ?_
  refine zM rfl (zO rfl (az rfl rfl (by exact jq (ay (by omega) (by omega)))) ?_)
  refine zO rfl (az rfl rfl (by exact aO (ay (by omega) (by omega)))) ?_
  refine zO rfl (bS (p:=some (.int .i64 (26+4*(n:Int)))) (q:=some (.int .i64 (26+4*(n:Int)))) (m:=none) (p':=some (26+4*n)) (q':=some (26+4*n)) (m':=none) rfl rfl rfl rfl (by rfl) (by rfl) rfl (fI (s.buf (k:=1) rfl).view (aM _) (by omega)).1) ?_
  refine aE.any rfl rfl rfl rfl (OpR.aaX rfl (s.ae [1]) rfl rfl rfl rfl (by omega) (by omega) (by omega)) ?_
  intro r h s
  have s:=s.ae [1,0]
  refine aE.nil ⟨⟨aa,aa,aa,aa,aa,aa,aa,aa,aa,aa,aa,aa,aa,aa,aa,aa,aa,aa,aa,aa,aa,aa⟩,?_⟩
  refine zg rfl (zl rfl (s.cg (k:=0) rfl br aU) (zm rfl (zb rfl (by exact aO (ay (by omega) (by omega))) ?_)))
  refine zo rfl (b8 rfl (by exact jN bP dQ (gY (by omega) (by omega)))) ?_
  have en:(n:Int)+1=((n+1:Nat):Int):=by omega
  rw[en]
  refine zc rfl (ng (a:=14) (z:=2) (n:=n+1) I (s.ae [1]) (by decide) (by decide) (by omega) (by omega)) ?_
  rintro r h ⟨rfl,s⟩
  have s:=s.ae [1,0]
  refine zk 3 rfl (zl rfl (s.cg (k:=0) rfl br aU) (zk 2 rfl (zc rfl (Ce (i:=n) (lo:=lo) I (s.ae [1,2]) hY l1 (by omega) iq (by omega)) ?_)))
  rintro r h ⟨rfl,s⟩
  have s:=s.ae [2,0,1,0]
  refine zk 3 rfl (zY s 0 dZ ah rfl (zk 3 rfl (WP.ret ⟨aa,_,rfl,?_⟩)))
  subst hn
  exact⟨_,_,rfl,hp.ins hf jC,s.drop⟩
 ·rw[hp.good] at hg;cases hg
theorem LH (hT:W told)(s:Sat h (X::Y::S))(hX:bX X (b5 v b))(hY:bX Y (b5 x c'))(J:dX b kd link extra cs)(hc:cs[i]?=some c)(LI:c'.length=c.length):
  Call ⟨Tryz.prog,told⟩ 51 [v,.int .i64 (i:Int),x] h fun r h'=>∃u b',r=.aW [u,.int .i64 0]∧dX b' kd link extra (cs.set i c')∧Sat h' (aQ u b'::X::Y::S):=by
 have hl:=J.len
 have dN:=J.fits
 have hi:=(List.getElem?_eq_some_iff.1 hc).1
 have IS:=gU hc
 have I:=J.rep hc LI
 obtain⟨s1,s2,s3⟩:=J.slot i c hc
 generalize hf:bu b i=f at s1 s3 I
 have l1:(aF b f c').length=512:=by rw[bL (by omega),hl]
 refine Call.of_wp (hT.free _ rfl) Tryz.func51 rfl rfl (zK 8 rfl (zc rfl (pn hT s hX (by omega)) ?_))
 rintro r h' (⟨hg,u,rfl,s⟩|⟨hg,rfl,s⟩)
 ·obtain⟨lz,_,cap,_,rfl,_⟩:=s.dP (by omega)
  refine zk 3 rfl ?_
  refine aA.cB s rfl rfl rfl (cF iJ) (fun p8 h s => ?_)
  dsimp only[V.cells,List.length_cons,List.length_nil,Nat.reduceAdd] at s
  refine zS rfl (s.iK (j:=0) rfl aU rfl rfl) (fun h s => ?_)
  dsimp only[setA] at s
  refine zk 3 rfl (WP.block (zK 3 rfl (zC rfl aN (rfl) (zk 6 rfl (zC rfl aL (by simp) ?_)))))
  refine zk 2 rfl (zl rfl (s.cg (k:=0) rfl br aU) (zc rfl (fJ hT s (k:=1) rfl (aK _ _) hl) ?_))
  rintro r h' ⟨rfl,s⟩
  rw[J.fg]
  refine zC rfl kC (by grind) ?_
  refine zk 2 rfl (zv (zj rfl (WP.skip (zg rfl (zl rfl (by exact s.cg (k:=0) rfl br aU) ?_)))))
  refine zm rfl (zc rfl (qF (i:=i) hT s (k:=1) rfl (aK _ _) hl (by omega)) ?_)
  rintro r h' ⟨rfl,s⟩
  rw[hf,s2]
  refine zk 10 rfl (zo rfl (aC rfl rfl rfl (au ak (s.aq (k:=3) rfl hY))) (zm rfl (zB rfl wT (by grind) ?_)))
  refine zk 4 rfl (zY s 0 dZ ah rfl (zm rfl ?_))
  have iI:=gJ (s.aq (k:=1) rfl (aK _ _)) (a:=f) (by omega)
  refine zo rfl (bS (p:=some (.int .i64 (f:Int))) (q:=none) (m:=none) (p':=some f) (q':=none) (m':=none) rfl rfl rfl rfl (by rfl) rfl rfl iI.1) ?_
  refine zm rfl (aA.any rfl rfl rfl (OpR.G8 rfl (s.ae [1,2]) hY rfl rfl rfl rfl (by omega) (aM _) (by omega)) ?_)
  intro r h s
  rw[gd (by omega)] at s
  have s:=s.ae [2,0,1,0]
  refine zk 3 rfl (zl rfl (s.cg (k:=0) rfl br aU) (zk 3 rfl (zo rfl (aC rfl rfl rfl (au ak (s.aq (k:=3) rfl hY))) (zc rfl (qg (i:=i) (f:=f) (z:=c'.length) hT (s.ae [1]) l1 (by omega) (by omega) (by omega)) ?_))))
  rintro r h ⟨rfl,s⟩
  have s:=s.ae [1,0]
  exact zk 3 rfl (zY s 0 dZ ah rfl (zk 3 rfl (WP.ret ⟨aa,_,rfl,_,_,rfl,I,s.drop⟩)))
 ·rw[J.good] at hg;cases hg
theorem Ns (I:W told){c0 c1:List Nat}(s:Sat h (X::S))(hX:bX X (b5 v b))(J:dX b kd link extra [c0,c1]):
  Call ⟨Tryz.prog,told⟩ 160 [v] h fun r h'=>∃w u0 u1,r=.aW [w,.int .i64 0]∧Sat h' (.arr 1 w [u0,u1]::aQ u0 c0::aQ u1 c1::X::S):=by
 have hl:=J.len
 have hv:=s.aq (k:=0) rfl hX
 have dN:=J.fits
 simp only[tot,aZ,bI] at dN
 obtain⟨pi,po,pc,rfl⟩:=gp hv (by omega)
 obtain⟨i1,eT,gC,om⟩:=tQ
 refine Call.of_wp (I.free _ rfl) ID rfl rfl (zK 8 rfl (zc rfl (rE I s hX (by omega)) ?_))
 rintro r h' ⟨s,(⟨hg,rfl⟩|⟨hg,rfl⟩)⟩
 ·refine aA.op rfl rfl rfl (bV rfl) ?_
  refine zk 2 rfl ?_
  refine aA.cB s rfl rfl rfl (cF iJ) (fun p4 h s => ?_)
  dsimp only[V.cells,List.length_cons,List.length_nil,Nat.reduceAdd] at s
  refine zS rfl (s.iK (j:=0) rfl aU rfl rfl) (fun h s => ?_)
  dsimp only[setA] at s
  refine zk 6 rfl (zC rfl aN (rfl) (zk 5 rfl (zl rfl (s.cg (k:=0) rfl br aU) (zc rfl (fJ I s (k:=1) rfl hX hl) ?_))))
  rintro r h' ⟨rfl,s⟩
  rw[show jf b=2 from J.fg]
  obtain⟨wv,h1,e3,s1⟩:=yP (P:=Tryz.prog) s bh eT k8 gC (by omega) rfl (by decide) (by decide) (n:=0) (c:=2) (by decide) (by decide)
  refine aA.any rfl rfl rfl (OpR.of (R:=fun v h'=>v=wv∧h'=h1) (wQ rfl rfl e3) ⟨rfl,rfl⟩) ?_
  rintro w0 h ⟨rfl,rfl⟩
  have s:Sat h (.arr 1 w0 []::_):=s1
  have s:=s.ae [1,1,0]
  dsimp only[bringA,getA,aT] at s
  refine zk 5 rfl (zl rfl (s.cg (k:=0) rfl br aU) (zc rfl (fJ I s (k:=1) rfl hX hl) ?_))
  rintro r h' ⟨rfl,s⟩
  rw[show jf b=2 from J.fg]
  refine zk 2 rfl (WP.block (WP.loop (zg rfl (zB rfl aL (by decide) ?_))))
  refine zk 5 rfl (WP.block (zK 7 rfl (zl rfl (s.cg (k:=0) rfl br aU) (zm rfl (zc rfl (Ff (i:=0) (c:=c0) I s (k:=1) rfl hX J rfl) ?_)))))
  rintro r h' ⟨f,rfl,hr,s⟩
  refine zc rfl (uG I (s.ae [1]) hr (by omega)) ?_
  intro u0 h s
  have YY:=(s.buf (k:=0) rfl).view.cells
  have s:=s.ae [3]
  dsimp only[aT,bringA,getA] at s
  obtain⟨iv,h1,zH,s1⟩:=jB (P:=Tryz.prog) (k:=1) (x:=u0) s bh k8 eZ rfl (by decide) (by decide) (by grind) (by grind)
  rw[YY.1] at s1
  refine aA.any rfl rfl rfl (OpR.of (R:=fun v h'=>v=iv∧h'=h1) (gI rfl zH) ⟨rfl,rfl⟩) ?_
  rintro v' h' ⟨rfl,rfl⟩
  obtain⟨av,h2,qb,s2⟩:=gK (s1.ae [1,0]) bh eT k8 gC (by omega) rfl (by decide) (by simp)
  dsimp only[List.nil_append,aT,bringA] at s2
  refine aA.any rfl rfl rfl (OpR.of (R:=fun v h'=>v=av∧h'=h2) (iG rfl rfl qb) ⟨rfl,rfl⟩) ?_
  rintro v' h ⟨rfl,rfl⟩
  have s:=(s2.del 1).ae [3,2,0,0]
  dsimp only[aT,bringA,getA] at s
  refine za rfl (zv (zr rfl (zb rfl (by exact aO (ay (by omega) (by omega))) ?_)))
  refine zm rfl (zv (WP.loop (zg rfl (zt rfl (az rfl rfl aL) (by decide) ?_))))
  refine zk 5 rfl (WP.block (zK 7 rfl (zl rfl (s.cg (k:=0) rfl br aU) (zm rfl (zc rfl (Ff (i:=1) (c:=c1) I s (k:=1) rfl hX J rfl) ?_)))))
  rintro r h' ⟨f1,rfl,UN,s⟩
  refine zc rfl (uG I (s.ae [1]) UN (by omega)) ?_
  intro u1 h s
  have UO:=(s.buf (k:=0) rfl).view.cells
  have s:=s.ae [3]
  dsimp only[aT,bringA,getA] at s
  obtain⟨iv1,h1,zH,s1⟩:=jB (P:=Tryz.prog) (k:=1) (x:=u1) s bh k8 eZ rfl (by decide) (by decide) (by grind) (by grind)
  rw[UO.1] at s1
  refine aA.any rfl rfl rfl (OpR.of (R:=fun v h'=>v=iv1∧h'=h1) (gI rfl zH) ⟨rfl,rfl⟩) ?_
  rintro v' h' ⟨rfl,rfl⟩
  obtain⟨av1,h2,qb,s2⟩:=gK (s1.ae [1,0]) bh eT k8 gC (by omega) rfl (by decide) (by simp)
  dsimp only[List.cons_append,List.nil_append,aT,bringA] at s2
  refine aA.any rfl rfl rfl (OpR.of (R:=fun v h'=>v=av1∧h'=h2) (iG rfl rfl qb) ⟨rfl,rfl⟩) ?_
  rintro v' h ⟨rfl,rfl⟩
  have s:=(s2.del 1).ae [3,2,0,1,0]
  dsimp only[aT,bringA,getA] at s
  refine za rfl (zv (zr rfl (zb rfl (by exact aO (ay (by omega) (by omega))) ?_)))
  refine zm rfl (zv (WP.loop (zg rfl (zh rfl (az rfl rfl aL) (by decide) ?_))))
  exact zk 3 rfl (WP.exit (zK 6 rfl (WP.ret ⟨aa,_,rfl,_,_,_,rfl,(s.ae [2,2,2,1]).del 4⟩)))
 ·rw[J.good] at hg;cases hg
end
structure cm (b:List Nat)(k link extra:Nat)(cs:List (List Nat)): Prop where
 len:b.length=512
 BO:b.getD 13 0=0
 kind:b.getD 12 0=k
 link:c9 b 18 4=link
 extra:c9 b 22 4=extra
 fg:jf b=cs.length
 low:26+4*cs.length≤dw b∧dw b≤512
 fits:26+4*cs.length+tot cs≤512
 slot:∀i c,cs[i]?=some c→dw b≤bu b i∧bu b i+c.length≤512∧dR b i=c.length∧∀j,j<c.length→b[bu b i+j]?=c[j]?
 P_:∀i j c d,i≠j→cs[i]?=some c→cs[j]?=some d→bu b i+c.length≤bu b j∨bu b j+d.length≤bu b i∨c.length=0∨d.length=0
section
theorem dX.f (h:dX b k link extra cs): cm b k link extra cs:=by
 have qa:=h.low
 have J:=h.fits
 have main:∀i j c d,i<j→cs[i]?=some c→cs[j]?=some d→bu b j+d.length≤bu b i:=fun i j c d nW I hd=>by
  obtain⟨s1,_,_⟩:=h.slot i c I
  obtain⟨r1,_,_⟩:=h.slot j d hd
  have t1:=gU hd
  have t2:=xo (cs:=cs) (i:=i+1) (j:=j) (by omega)
  omega
 refine⟨h.len,h.BO,h.kind,h.link,h.extra,h.fg,by omega,J,fun i c I => ?_,fun i j c d nW I hd => ?_⟩
 ·obtain⟨s1,s2,s3⟩:=h.slot i c I
  have t1:=gU I
  have t2:=jP (cs:=cs) (i:=i+1)
  exact⟨by omega,by omega,s2,s3⟩
 ·rcases El nW with q|q
  ·exact .inr (.inl (main i j c d q I hd))
  ·exact .inl (main j i d c q hd I)
theorem cm.cells (h:cm b k link extra cs): ∀(n i:Nat) (t:List Bool),i+n=cs.length→t.length=512→(∀q d,i≤q→cs[q]?=some d→∀j,bu b q≤j→j<bu b q+d.length→t.getD j false=false)→cellsL b (dw b) n i t=true:=by
 intro n
 induction n with
 |zero=>intro i t _ _ _;rfl
 |succ n ih =>
  intro i t hi ht hf
  have I:cs[i]?=some (cs[i]'(by omega)):=aG _
  generalize (cs[i]'(by omega))=c at I
  obtain⟨s0,s1,s2,s3⟩:=h.slot i c I
  obtain⟨t',e1,e2,e3⟩:=IQ c.length (bu b i) t (by omega) (fun j J a2=>hf i c (aM _) I j J a2)
  rw[cellsL,s2,ax (by omega),e1]
  refine ih (i+1) t' (by omega) (by omega) fun q d hq hd j J a2 => ?_
  rw[e3 j (by
   have:=h.P_ i q c d (by omega) I hd
   omega)]
  exact hf q d (by omega) hd j J a2
theorem cm.good (h:cm b k link extra cs): b7 b=true:=by
 have I:=h.low
 rw[b7,dy h.len,dy h.BO,dy (by rw[h.fg];omega),h.cells _ _ _ (by rw[h.fg];omega) fc fun q d _ _ j _ _ => ?_]
 ·rfl
 grind
theorem cm.cell (h:cm b k link extra cs)(I:cs[i]?=some c): (b.drop (bu b i)).take c.length=c:=by
 obtain⟨J,s1,s2,s3⟩:=h.slot i c I
 apply nC
 grind
theorem cm.IW (h:cm b k link extra cs){lo:Nat}(hl:b'.length=512)(hh:∀i,12≤i→i<14∨18≤i→i<26→b'[i]?=b[i]?)(hn:jf b'=cs'.length)(I:dw b'=lo)(h1:26+4*cs'.length≤lo)(h2:lo≤512)(hf:26+4*cs'.length+tot cs'≤512)
 (hs:∀i c,cs'[i]?=some c→lo≤bu b' i∧bu b' i+c.length≤512∧dR b' i=c.length∧∀j,j<c.length→b'[bu b' i+j]?=c[j]?)
 (hd:∀i j c d,i<j→cs'[i]?=some c→cs'[j]?=some d→bu b' i+c.length≤bu b' j∨bu b' j+d.length≤bu b' i∨c.length=0∨d.length=0): cm b' k link extra cs':=by
 refine⟨hl,?_,?_,?_,?_,hn,by rw[I];exact⟨h1,h2⟩,hf,by rw[I];exact hs,fun i j c d nW hc J => ?_⟩
 ·rw[kJ (hh 13 (by decide) (by decide) (by decide))];exact h.BO
 ·rw[kJ (hh 12 (by decide) (by decide) (by decide))];exact h.kind
 ·rw[dJ (m:=b) fun i a1 a2=>hh i (by omega) (by omega) (by omega)];exact h.link
 ·rw[dJ (m:=b) fun i a1 a2=>hh i (by omega) (by omega) (by omega)];exact h.extra
 ·rcases El nW with q|q
  ·exact hd i j c d q hc J
  ·rcases hd j i d c q J hc with e|e|e|e
   ·exact .inr (.inl e)
   ·exact .inl e
   ·exact .inr (.inr (.inr e))
   ·exact .inr (.inr (.inl e))
theorem cm.tail (h:cm b k link extra cs)(hl:b'.length=512)(ht:b'.drop 12=b.drop 12): cm b' k link extra cs:=by
 have hg:∀i,12≤i→b'[i]?=b[i]?:=fun i hi=>by
  have:=dn (fun l:List Nat=>l[i-12]?) ht
  grind
 have I:∀a z,12≤a→c9 b' a z=c9 b a z:=fun a z q=>tP ht q
 have J:∀i,bu b' i=bu b i:=fun i=>I _ _ (by omega)
 have hZ:∀i,dR b' i=dR b i:=fun i=>I _ _ (by omega)
 refine h.IW hl (fun i h1 _ _=>hg i h1) (by rw[jf,I _ _ (by decide)];exact h.fg) (by rw[dw,I _ _ (by decide)];rfl) h.low.1 h.low.2 h.fits (fun i c hc => ?_) fun i j c d nW hc hd=>by rw[J,J];exact h.P_ i j c d (by omega) hc hd
 have qa:=h.low
 obtain⟨s0,s1,s2,s3⟩:=h.slot i c hc
 rw[J,hZ]
 exact⟨s0,s1,s2,fun j hj=>by rw[hg _ (by omega)];exact s3 j hj⟩
def cN {α:Type}(i:Nat)(c:α)(l:List α): List α:=l.take i++c::l.drop i
theorem j9 {c:α}{l:List α}(hi:i≤l.length): (cN i c l).length=l.length+1:=by
 simp[cN];omega
theorem k_ {c:α}{l:List α}(hi:i≤l.length): (cN i c l)[j]?=if j<i then l[j]? else if j=i then some c else l[j-1]?:=by
 grind[cN]
theorem xq {l:List (List Nat)}: tot (cN i c l)=tot l+c.length:=by
 have:=sZ (a:=l.take i) (b:=l.drop i)
 rw[iY] at this
 rw[cN,sZ,tot];omega
def nq (b:List Nat)(i n:Nat): List Nat:=aF b (30+4*i) ((b.drop (26+4*i)).take (4*(n-i)))
def mu (b:List Nat)(i n lo:Nat)(c:List Nat): List Nat:=ku (aF (aF (aF (nq b i n) 14 (le 2 (n+1))) lo c) 16 (le 2 lo)) i lo c.length
theorem LJ {n:Nat}(I:b.length=512)(hi:i≤n)(J:30+4*n≤512): (nq b i n).length=512:=by
 grind[nq,bL]
theorem LK {n:Nat}(I:b.length=512)(hi:i≤n)(J:30+4*n≤512)(hj:j<30+4*i∨30+4*n≤j): (nq b i n)[j]?=b[j]?:=by
 unfold nq
 rw[dS (by grind) (by grind)]
theorem YZ {n:Nat}(I:b.length=512)(hi:i≤n)(J:30+4*n≤512)(h1:26+4*i≤j)(h2:j<26+4*n): (nq b i n)[j+4]?=b[j]?:=by
 have e:j+4=(30+4*i)+(j-(26+4*i)):=by omega
 rw[nq,e,me (by grind) (by grind)]
 grind
theorem Gi {m:List Nat}{d:Nat}(h:∀i,a≤i→i<a+z→l[i+d]?=m[i]?): c9 l (a+d) z=c9 m a z:=by
 unfold c9
 congr 1
 apply nC
 intro i
 simp only[eA,gh]
 by_cases hi:i<z
 ·rw[aH (by omega),aH (by omega)]
  have:=h (a+i) (by omega) (by omega)
  rwa [show a+i+d=a+d+i by omega] at this
 ·rw[ax (by omega),ax (by omega)]
theorem cm.ins (h:cm b k link extra cs){lo:Nat}(hi:i≤cs.length)(jC:lo+c.length=dw b)(hr:30+4*cs.length≤lo)(hf:26+4*(cs.length+1)+(tot cs+c.length)≤512): cm (mu b i cs.length lo c) k link extra (cN i c cs):=by
 have hlen:=h.len
 have qa:=h.low
 have hle:∀n,(le 2 n).length=2:=fun n=>dH 2 n
 have l0:=LJ hlen hi (by omega)
 have l1:(aF (nq b i cs.length) 14 (le 2 (cs.length+1))).length=512:=by grind[bL]
 have l2:(aF (aF (nq b i cs.length) 14 (le 2 (cs.length+1))) lo c).length=512:=by rw[bL (by omega),l1]
 have l3:(aF (aF (aF (nq b i cs.length) 14 (le 2 (cs.length+1))) lo c) 16 (le 2 lo)).length=512:=by grind[bL]
 have l4:(mu b i cs.length lo c).length=512:=wg l3 (by omega)
 have o3:∀j,j<16∨18≤j→(aF (aF (aF (nq b i cs.length) 14 (le 2 (cs.length+1))) lo c) 16 (le 2 lo))[j]?=(aF (aF (nq b i cs.length) 14 (le 2 (cs.length+1))) lo c)[j]?:=fun j hj=>dS (by grind) (by grind)
 have o4:∀j,j<26+4*i∨30+4*i≤j→(mu b i cs.length lo c)[j]?=(aF (aF (aF (nq b i cs.length) 14 (le 2 (cs.length+1))) lo c) 16 (le 2 lo))[j]?:=fun j hj=>wj l3 (by omega) hj
 have o1:∀j,(j<14∨16≤j)→(aF (nq b i cs.length) 14 (le 2 (cs.length+1)))[j]?=(nq b i cs.length)[j]?:=fun j hj=>dS (by grind) (by grind)
 have o2:∀j,(j<lo∨lo+c.length≤j)→(aF (aF (nq b i cs.length) 14 (le 2 (cs.length+1))) lo c)[j]?=(aF (nq b i cs.length) 14 (le 2 (cs.length+1)))[j]?:=fun j hj=>dS (by omega) hj
 have oS:∀j,(j<14∨18≤j)→(j<26+4*i∨30+4*i≤j)→(j<lo∨lo+c.length≤j)→(mu b i cs.length lo c)[j]?=(nq b i cs.length)[j]?:=fun j a1 a2 a3=>by
  rw[o4 j a2,o3 j (by omega),o2 j a3,o1 j (by omega)]
 have J:∀j,(j<14∨18≤j)→(j<26+4*i∨30+4*cs.length≤j)→(j<lo∨lo+c.length≤j)→(mu b i cs.length lo c)[j]?=b[j]?:=fun j a1 a2 a3=>by
  rw[oS j a1 (by omega) a3,LK hlen hi (by omega) (by omega)]
 have zP:∀j,26+4*i≤j→j<26+4*cs.length→(mu b i cs.length lo c)[j+4]?=b[j]?:=fun j a1 a2=>by
  rw[oS (j+4) (by omega) (by omega) (by omega),YZ hlen hi (by omega) a1 a2]
 have iI:bu (mu b i cs.length lo c) i=lo∧dR (mu b i cs.length lo c) i=c.length:=zV l3 (by omega) (by omega) (by omega)
 have cV:∀j,j<i→bu (mu b i cs.length lo c) j=bu b j∧dR (mu b i cs.length lo c) j=dR b j:=fun j hj =>
  ⟨dJ fun q a1 a2=>J q (by omega) (by omega) (by omega),dJ fun q a1 a2=>J q (by omega) (by omega) (by omega)⟩
 have CQ:∀j,i≤j→j<cs.length→bu (mu b i cs.length lo c) (j+1)=bu b j∧dR (mu b i cs.length lo c) (j+1)=dR b j:=fun j a1 a2 =>
  ⟨Gi (a:=26+4*j) fun q b1 b2=>zP q (by omega) (by omega),Gi (a:=26+4*j+2) fun q b1 b2=>zP q (by omega) (by omega)⟩
 have BU:jf (mu b i cs.length lo c)=cs.length+1:=by
  have e:c9 (mu b i cs.length lo c) 14 2=c9 (aF (nq b i cs.length) 14 (le 2 (cs.length+1))) 14 2:=dJ fun j h1 h2=>by
   rw[o4 j (by omega),o3 j (by omega),o2 j (by omega)]
  rw[jf,e,qf (by omega) (by omega)]
 have UP:dw (mu b i cs.length lo c)=lo:=by
  have e:c9 (mu b i cs.length lo c) 16 2=c9 (aF (aF (aF (nq b i cs.length) 14 (le 2 (cs.length+1))) lo c) 16 (le 2 lo)) 16 2:=dJ fun j h1 h2=>o4 j (by omega)
  rw[dw,e,qf (by omega) (by omega)]
 have hold:∀j d,cs[j]?=some d→∃j',(cN i c cs)[j']?=some d∧bu (mu b i cs.length lo c) j'=bu b j:=fun j d I=>by
  have hj:=(List.getElem?_eq_some_iff.1 I).1
  by_cases q:j<i
  ·exact⟨j,by rw[k_ hi,aH q];exact I,(cV j q).1⟩
  ·exact⟨j+1,by rw[k_ hi,ax (by omega),ax (by omega)];exact I,(CQ j (by omega) hj).1⟩
 have DD:∀j d,(cN i c cs)[j]?=some d→(j=i∧d=c)∨∃j0,cs[j0]?=some d∧bu (mu b i cs.length lo c) j=bu b j0∧dR (mu b i cs.length lo c) j=dR b j0∧(j=j0∧j<i∨j=j0+1∧i<j):=fun j d I=>by
  rw[k_ hi] at I
  by_cases q:j<i
  ·rw[aH q] at I
   exact .inr ⟨j,I,(cV j q).1,(cV j q).2,.inl ⟨rfl,q⟩⟩
  ·rw[ax q] at I
   by_cases q2:j=i
   ·rw[aH q2] at I;exact .inl ⟨q2,(bp I).symm⟩
   ·rw[ax q2] at I
    have hj:=(List.getElem?_eq_some_iff.1 I).1
    have g:=CQ (j-1) (by omega) hj
    rw[show j-1+1=j by omega] at g
    exact .inr ⟨j-1,I,g.1,g.2,.inr ⟨by omega,by omega⟩⟩
 refine h.IW l4 (fun j a1 a2 a3=>J j (by omega) (by omega) (by omega)) (by rw[BU,j9 hi]) UP (by rw[j9 hi];omega) (by omega) (by rw[j9 hi,xq];omega) (fun j d I => ?_) fun j j2 d d2 hjj I IX => ?_
 ·rcases DD j d I with⟨rfl,rfl⟩|⟨j0,BF,e1,e2,_⟩
  ·rw[iI.1,iI.2]
   refine⟨aM _,by omega,rfl,fun q hq => ?_⟩
   rw[o4 _ (by omega),o3 _ (by omega),me (by omega) hq]
  ·obtain⟨s0,s1,s2,s3⟩:=h.slot j0 d BF
   rw[e1,e2]
   exact⟨by omega,s1,s2,fun q hq=>by rw[J _ (by omega) (by omega) (by omega)];exact s3 q hq⟩
 ·rcases DD j d I with⟨rfl,rfl⟩|⟨j0,BF,e1,e2,e3⟩
  ·rcases DD j2 d2 IX with⟨rfl,rfl⟩|⟨j0,BF,e1,e2,_⟩
   ·omega
   ·obtain⟨s0,s1,s2,s3⟩:=h.slot j0 d2 BF
    rw[iI.1,e1];left;omega
  ·obtain⟨s0,s1,s2,s3⟩:=h.slot j0 d BF
   rcases DD j2 d2 IX with⟨rfl,rfl⟩|⟨j4,Y0,e4,e5,e6⟩
   ·rw[iI.1,e1];right;left;omega
   ·rw[e1,e4]
    exact h.P_ j0 j4 d d2 (by omega) BF Y0
theorem qh (I:cs[i]?=some c): tot (cs.set i c')+c.length=tot cs+c'.length:=by
 induction cs generalizing i with
 |nil=>simp at I
 |cons x cs J =>
  cases i with
  |zero=>simp at I;subst I;simp only[List.set_cons_zero,tot];omega
  |succ i=>have:=J (i:=i) (by simpa using I);simp only[Ej,tot];omega
theorem cm.IY (h:cm b k link extra cs){f lo:Nat}{b1:List Nat}(hc:cs[i]?=some c)(l1:b1.length=512)(jC:dw b1=lo)(Nr:lo≤dw b)(hr:26+4*cs.length≤lo)(ux:lo≤f)(Gj:f+c'.length≤512)(dN:26+4*cs.length+tot (cs.set i c')≤512)
 (hb:∀j,12≤j→(j<16∨18≤j)→(j<f∨f+c'.length≤j)→b1[j]?=b[j]?)(zP:∀j,j<c'.length→b1[f+j]?=c'[j]?)
 (hd:f+c'.length≤dw b∨c'.length=0∨f=bu b i∧c'.length≤c.length): cm (ku b1 i f c'.length) k link extra (cs.set i c'):=by
 have hi:=(List.getElem?_eq_some_iff.1 hc).1
 have qa:=h.low
 have l2:(ku b1 i f c'.length).length=512:=wg l1 (by omega)
 have o2:∀j,j<26+4*i∨30+4*i≤j→(ku b1 i f c'.length)[j]?=b1[j]?:=fun j hj=>wj l1 (by omega) hj
 have J:∀j,12≤j→(j<16∨18≤j)→(j<26+4*i∨30+4*i≤j)→(j<f∨f+c'.length≤j)→(ku b1 i f c'.length)[j]?=b[j]?:=fun j a1 a2 a3 a4=>by rw[o2 j a3,hb j a1 a2 a4]
 have iI:bu (ku b1 i f c'.length) i=f∧dR (ku b1 i f c'.length) i=c'.length:=zV l1 (by omega) (by omega) (by omega)
 have h_:∀j,j≠i→j<cs.length→bu (ku b1 i f c'.length) j=bu b j∧dR (ku b1 i f c'.length) j=dR b j:=fun j a1 a2 =>
  ⟨dJ fun q b1 b2=>J q (by omega) (by omega) (by omega) (by omega),dJ fun q b1 b2=>J q (by omega) (by omega) (by omega) (by omega)⟩
 have ff:∀j d,j≠i→cs[j]?=some d→d.length=0∨c'.length=0∨bu b j+d.length≤f∨f+c'.length≤bu b j:=fun j d hj I=>by
  obtain⟨s0,s1,s2,s3⟩:=h.slot j d I
  have:=h.P_ i j c d (lN hj) hc I
  omega
 have DD:∀j d,(cs.set i c')[j]?=some d→(j=i∧d=c')∨(j≠i∧cs[j]?=some d∧j<cs.length):=fun j d I=>by
  by_cases q:i=j
  ·subst q
   rw[iX hi] at I
   exact .inl ⟨rfl,(bp I).symm⟩
  ·rw[kE q] at I
   exact .inr ⟨lN q,I,(List.getElem?_eq_some_iff.1 I).1⟩
 have Y1:(cs.set i c').length=cs.length:=bT
 refine h.IW l2 (fun j a1 a2 a3=>J j a1 (by omega) (by omega) (by omega)) ?_ ?_ (by rw[Y1];exact hr) (by omega) (by rw[Y1];exact dN) (fun j d I => ?_) fun j j2 d d2 hjj I IX => ?_
 ·rw[Y1,←h.fg]
  exact dJ fun q a1 a2=>J q (by omega) (by omega) (by omega) (by omega)
 ·rw[←jC]
  exact dJ fun q a1 a2=>o2 q (by omega)
 ·rcases DD j d I with⟨rfl,rfl⟩|⟨q1,q2,q3⟩
  ·rw[iI.1,iI.2]
   exact⟨ux,Gj,rfl,fun q hq=>by rw[o2 _ (by omega)];exact zP q hq⟩
  ·obtain⟨s0,s1,s2,s3⟩:=h.slot j d q2
   rw[(h_ j q1 q3).1,(h_ j q1 q3).2]
   have:=ff j d q1 q2
   exact⟨by omega,s1,s2,fun q hq=>by rw[J _ (by omega) (by omega) (by omega) (by omega)];exact s3 q hq⟩
 ·rcases DD j d I with⟨rfl,rfl⟩|⟨q1,q2,q3⟩
  ·rcases DD j2 d2 IX with⟨rfl,rfl⟩|⟨r1,r2,r3⟩
   ·omega
   ·have:=ff j2 d2 r1 r2
    rw[iI.1,(h_ j2 r1 r3).1];omega
  ·rcases DD j2 d2 IX with⟨rfl,rfl⟩|⟨r1,r2,r3⟩
   ·have:=ff j d q1 q2
    rw[iI.1,(h_ j q1 q3).1];omega
   ·rw[(h_ j q1 q3).1,(h_ j2 r1 r3).1]
    exact h.P_ j j2 d d2 (by omega) q2 r2
theorem cm.rep (h:cm b k link extra cs)(J:cs[i]?=some c)(hl:c'.length≤c.length): cm (vf b i (bu b i) c') k link extra (cs.set i c'):=by
 obtain⟨s0,s1,s2,s3⟩:=h.slot i c J
 have hlen:=h.len
 have I:=h.low
 have dN:=h.fits
 have ht:=qh (c':=c') J
 have hi:=(List.getElem?_eq_some_iff.1 J).1
 have l1:(aF b (bu b i) c').length=512:=by rw[bL (by omega),hlen]
 refine h.IY J l1 ?_ (aM _) I.1 s0 (by omega) (by omega) (fun j _ _ a3=>dS (by omega) a3) (fun j hj=>me (by omega) hj) (.inr (.inr ⟨rfl,hl⟩))
 exact dJ fun q a1 a2=>dS (by omega) (by omega)
theorem cm.none (h:cm b k link extra cs)(J:cs[i]?=some c): cm (ku b i (dw b) 0) k link extra (cs.set i []):=by
 have I:=h.low
 have dN:=h.fits
 have ht:=qh (c':=[]) J
 rw[bI] at ht
 exact h.IY (c':=[]) J h.len rfl (aM _) I.1 (aM _) (by simpa using I.2) (by omega) (fun j _ _ _=>rfl) (fun j hj=>by cases hj) (.inr (.inl rfl))
theorem cm.below (h:cm b k link extra cs){lo:Nat}(hc:cs[i]?=some c)(jC:lo+c'.length=dw b)(hr:26+4*cs.length≤lo)(I:26+4*cs.length+tot (cs.set i c')≤512): cm (ku (aF (aF b lo c') 16 (le 2 lo)) i lo c'.length) k link extra (cs.set i c'):=by
 have hlen:=h.len
 have J:=h.low
 have hle:∀n,(le 2 n).length=2:=fun n=>dH 2 n
 have l0:(aF b lo c').length=512:=by rw[bL (by omega),hlen]
 have l1:(aF (aF b lo c') 16 (le 2 lo)).length=512:=by grind[bL]
 have o1:∀j,j<16∨18≤j→(aF (aF b lo c') 16 (le 2 lo))[j]?=(aF b lo c')[j]?:=fun j hj=>dS (by grind) (by grind)
 refine h.IY hc l1 (by rw[dw,qf (by omega) (by omega)]) (by omega) hr (aM _) (by omega) I (fun j _ a2 a3=>by rw[o1 j a2,dS (by omega) a3]) (fun j hj=>by rw[o1 _ (by omega),me (by omega) hj]) (.inl (by omega))
structure An (b0:List Nat)(cs:List (List Nat))(i:Nat)(b:List Nat): Prop where
 len:b.length=512
 head:∀j,j<26→b[j]?=b0[j]?
 slot:∀j c,j<i→cs[j]?=some c→bu b j+tot (cs.take (j+1))=512∧dR b j=c.length∧∀q,q<c.length→b[bu b j+q]?=c[q]?
theorem An.start (I:b0.length=512): An b0 cs 0 b0:=⟨I,fun _ _=>rfl,fun j c h=>by omega⟩
theorem An.step {lo:Nat}(h:An b0 cs i b)(hf:26+4*cs.length+tot cs≤512)(hc:cs[i]?=some c)(jC:lo+tot (cs.take (i+1))=512): An b0 cs (i+1) (ku (aF b lo c) i lo c.length):=by
 have hlen:=h.len
 have hi:=(List.getElem?_eq_some_iff.1 hc).1
 have t1:=gU hc
 have t2:=jP (cs:=cs) (i:=i+1)
 have l1:(aF b lo c).length=512:=by rw[bL (by omega),hlen]
 have l2:(ku (aF b lo c) i lo c.length).length=512:=wg l1 (by omega)
 have J:∀j,j<26+4*i∨30+4*i≤j→(ku (aF b lo c) i lo c.length)[j]?=(aF b lo c)[j]?:=fun j I=>wj l1 (by omega) I
 have o1:∀j,j<lo∨lo+c.length≤j→(aF b lo c)[j]?=b[j]?:=fun j I=>dS (by omega) I
 have iI:bu (ku (aF b lo c) i lo c.length) i=lo∧dR (ku (aF b lo c) i lo c.length) i=c.length:=zV l1 (by omega) (by omega) (by omega)
 refine⟨l2,fun j I=>by rw[J j (by omega),o1 j (by omega)];exact h.head j I,fun j d I hd => ?_⟩
 by_cases q:j=i
 ·subst q
  rw[hc] at hd
  obtain rfl:=bp hd
  rw[iI.1,iI.2]
  exact⟨jC,rfl,fun q hq=>by rw[J _ (by omega),me (by omega) hq]⟩
 ·obtain⟨s1,s2,s3⟩:=h.slot j d (by omega) hd
  have hj2:=(List.getElem?_eq_some_iff.1 hd).1
  have t3:=xo (cs:=cs) (i:=j+1) (j:=i) (by omega)
  have t4:=gU hd
  have t5:=jP (cs:=cs) (i:=j+1)
  have e1:bu (ku (aF b lo c) i lo c.length) j=bu b j:=dJ fun q a1 a2=>by rw[J q (by omega),o1 q (by omega)]
  have e2:dR (ku (aF b lo c) i lo c.length) j=dR b j:=dJ fun q a1 a2=>by rw[J q (by omega),o1 q (by omega)]
  rw[e1,e2]
  exact⟨s1,s2,fun q hq=>by rw[J _ (by omega),o1 _ (by omega)];exact s3 q hq⟩
def DE (b:List Nat)(n lo:Nat): List Nat:=aF (aF b (26+4*n) (List.replicate (lo-(26+4*n)) 0)) 16 (le 2 lo)
theorem An.done {lo:Nat}(h:An b0 cs cs.length b)(I:cm b0 k link extra cs)(jC:lo+tot cs=512): dX (DE b cs.length lo) k link extra cs:=by
 have hlen:=h.len
 have hf:=I.fits
 have hle:∀n,(le 2 n).length=2:=fun n=>dH 2 n
 have l1:(aF b (26+4*cs.length) (List.replicate (lo-(26+4*cs.length)) 0)).length=512:=by rw[bL (by rw[fc];omega),hlen]
 have l2:(DE b cs.length lo).length=512:=by grind[DE,bL]
 have o2:∀j,j<16∨18≤j→(DE b cs.length lo)[j]?=(aF b (26+4*cs.length) (List.replicate (lo-(26+4*cs.length)) 0))[j]?:=fun j hj=>dS (by grind) (by grind)
 have o1:∀j,j<26+4*cs.length∨lo≤j→(aF b (26+4*cs.length) (List.replicate (lo-(26+4*cs.length)) 0))[j]?=b[j]?:=fun j hj=>dS (by rw[fc];omega) (by rw[fc];omega)
 have hh:∀j,j<16∨18≤j→j<26→(DE b cs.length lo)[j]?=b0[j]?:=fun j J a2=>by rw[o2 j J,o1 j (by omega)];exact h.head j a2
 refine⟨l2,?_,?_,?_,?_,?_,?_,hf,fun i c hc => ?_⟩
 ·rw[kJ (hh 13 (by decide) (by decide))];exact I.BO
 ·rw[kJ (hh 12 (by decide) (by decide))];exact I.kind
 ·rw[dJ (m:=b0) fun i J a2=>hh i (by omega) (by omega)];exact I.link
 ·rw[dJ (m:=b0) fun i J a2=>hh i (by omega) (by omega)];exact I.extra
 ·rw[jf,dJ (m:=b0) fun i J a2=>hh i (by omega) (by omega)];exact I.fg
 ·have:dw (DE b cs.length lo)=lo:=by rw[dw,DE,qf (by omega) (by omega)]
  omega
 ·have hi:=(List.getElem?_eq_some_iff.1 hc).1
  obtain⟨s1,s2,s3⟩:=h.slot i c hi hc
  have t1:=gU hc
  have t2:=jP (cs:=cs) (i:=i+1)
  have e1:bu (DE b cs.length lo) i=bu b i:=dJ fun q J a2=>by rw[o2 q (by omega),o1 q (by omega)]
  have e2:dR (DE b cs.length lo) i=dR b i:=dJ fun q J a2=>by rw[o2 q (by omega),o1 q (by omega)]
  rw[e1,e2]
  exact⟨s1,s2,fun q hq=>by rw[o2 _ (by omega),o1 _ (by omega)];exact s3 q hq⟩
end
abbrev Ky := List Nat
variable {lo:Ky} {hi:Option Ky}
abbrev En := Ky×Ky
variable {es eL eR:List En}
def dU (e:En): List Nat:=e.1.length::(e.1++e.2)
def ie (n:Nat)(k:Ky): List Nat:=le 4 n++k
structure gR where
 key:Ky
 pg:Nat
 es:List En
 ps:List Nat
variable {k1:gR} {ks:List gR}
def gu (k:gR): List Nat:=k.pg::k.ps
def kisC : List gR→List (List Nat)
 |[]=>[]
 |k::t=>ie k.pg []::t.map fun k=>ie k.pg k.key
def Bd (lo:Ky)(hi:Option Ky)(k:Ky): Prop:=lo≤k∧∀h,hi=some h→k<h
structure jH (lo:Ky)(hi:Option Ky)(es:List En): Prop where
 bd:∀e∈es,Bd lo hi e.1
 sz:∀e∈es,1≤e.1.length∧e.1.length≤96∧e.2.length≤128
 jX:es.Pairwise fun a b=>a.1<b.1
def loK (lo:Ky)(ks:List gR)(i:Nat): Ky:=if i=0 then lo else match ks[i]? with|some k=>k.key|none=>[]
def fV (hi:Option Ky)(ks:List gR)(i:Nat): Option Ky:=match ks[i+1]? with|some k=>some k.key|none=>hi
structure Sep (lo:Ky)(hi:Option Ky)(ks:List gR): Prop where
 ne:ks≠[]
 pg:∀k∈ks,k.pg<4294967296
 sz:∀(i:Nat) (k:gR),ks[i]?=some k→1≤i→1≤k.key.length∧k.key.length≤96
 bd:∀(i:Nat) (k:gR),ks[i]?=some k→1≤i→lo<k.key∧∀h,hi=some h→k.key<h
 jX:∀(i j:Nat) (k m:gR),ks[i]?=some k→ks[j]?=some m→1≤i→i<j→k.key<m.key
def Nv (F:Nat→List (List Nat)→Prop)(P:Int→List Nat): Nat→Ky→Option Ky→List (List Nat)→List En→List Nat→Prop
 |0,lo,hi,cs,es,ps=>cs=es.map dU∧jH lo hi es∧ps=[]
 |l+1,lo,hi,cs,es,ps=>∃ks:List gR,cs=kisC ks∧Sep lo hi ks∧es=ks.flatMap (·.es)∧ps=ks.flatMap gu ∧
   ∀i k,ks[i]?=some k→∃cs',Nv F P l (loK lo ks i) (fV hi ks i) cs' k.es k.ps∧F l cs'∧cm (P k.pg) 204 0 l cs'
section
variable {P:Int→List Nat} {l n:Nat}
theorem iy : (kisC ks).length=ks.length:=by
 cases ks<;>simp[kisC]
theorem j_ {k:gR}(h:ks[i]?=some k): (kisC ks)[i]?=some (ie k.pg (if i=0 then[] else k.key)):=by
 cases ks with
 |nil=>simp at h
 |cons x t =>
  cases i with
  |zero=>simp at h;subst h;rfl
  |succ i =>
   have h:t[i]?=some k:=by simpa using h
   simp[kisC,h]
theorem Nv.frame : ∀ {l:Nat} {lo:Ky} {hi:Option Ky} {cs:List (List Nat)} {es:List En} {ps:List Nat},Nv F P l lo hi cs es ps→(∀m∈ps,P' m=P m)→Nv F P' l lo hi cs es ps:=by
 intro l
 induction l with
 |zero=>intro lo hi cs es ps h _;exact h
 |succ l ih =>
  intro lo hi cs es ps ⟨ks,h1,h2,h3,h4,h5⟩ hp
  subst h4
  refine⟨ks,h1,h2,h3,rfl,fun i k J => ?_⟩
  obtain⟨cs',a1,a2,a3⟩:=h5 i k J
  have hm:=aR J
  have hq:∀m∈k.pg::k.ps,P' m=P m:=fun m I=>hp m (List.mem_flatMap.2 ⟨k,hm,I⟩)
  exact⟨cs',ih a1 fun m I=>hq m (bR _ I),a2,by rw[hq k.pg bO];exact a3⟩
theorem Bd.trans {I:Ky}{J:Option Ky}{k:Ky}(h:Bd lo hi k)(h1:I≤lo)(h2:∀b,J=some b→∃a,hi=some a∧a≤b): Bd I J k :=
 ⟨List.le_trans h1 h.1,fun b hb=>by obtain⟨a,ha,my⟩:=h2 b hb;have:=h.2 a ha;grind⟩
theorem Sep.lo_le (h:Sep lo hi ks)(I:i<ks.length): lo≤loK lo ks i:=by
 unfold loK
 split
 ·exact oR _
 ·have J:ks[i]?=some ks[i]:=aG I
  rw[J]
  exact oO (h.bd i _ J (by omega)).1
theorem Sep.Nt (h:Sep lo hi ks): ∀b,hi=some b→∃a,fV hi ks i=some a∧a≤b:=by
 intro b I
 unfold fV
 cases J:ks[i+1]? with
 |none=>exact⟨b,I,oR _⟩
 |some k=>exact⟨k.key,rfl,oO ((h.bd (i+1) k J (by omega)).2 b I)⟩
theorem Qa {R:β→β→Prop}{f:α→List β}: ∀ {l:List α},(∀x∈l,(f x).Pairwise R)→(∀(i j:Nat) (x y:α),l[i]?=some x→l[j]?=some y→i<j→∀a∈f x,∀b∈f y,R a b)→(l.flatMap f).Pairwise R:=by
 intro l
 induction l with
 |nil=>intro _ _;exact List.Pairwise.nil
 |cons x l ih =>
  intro h1 h2
  rw[fE,vo]
  refine⟨h1 x bO,ih (fun y I=>h1 y (bR _ I)) (fun i j y z I hz nW=>h2 (i+1) (j+1) y z (by simpa using I) (by simpa using hz) (by omega)),fun a ha b J => ?_⟩
  obtain⟨y,I,J⟩:=List.mem_flatMap.1 J
  obtain⟨j,hj⟩:=List.mem_iff_getElem?.1 I
  exact h2 0 (j+1) x y rfl (by simpa using hj) (by omega) a ha b J
theorem Nv.ok : ∀ {l:Nat} {lo:Ky} {hi:Option Ky} {cs:List (List Nat)} {es:List En} {ps:List Nat},Nv F P l lo hi cs es ps→jH lo hi es:=by
 intro l
 induction l with
 |zero=>intro lo hi cs es ps h;exact h.2.1
 |succ l ih =>
  intro lo hi cs es ps ⟨ks,h1,h2,h3,h4,h5⟩
  have hE:∀i k,ks[i]?=some k→jH (loK lo ks i) (fV hi ks i) k.es:=fun i k J=>by
   obtain⟨cs',a1,_,_⟩:=h5 i k J
   exact ih a1
  subst h3
  refine⟨fun e he => ?_,fun e he => ?_,?_⟩
  ·obtain⟨k,J,he⟩:=List.mem_flatMap.1 he
   obtain⟨i,I⟩:=List.mem_iff_getElem?.1 J
   exact((hE i k I).bd e he).trans (h2.lo_le (List.getElem?_eq_some_iff.1 I).1) h2.Nt
  ·obtain⟨k,J,he⟩:=List.mem_flatMap.1 he
   obtain⟨i,I⟩:=List.mem_iff_getElem?.1 J
   exact(hE i k I).sz e he
  ·refine Qa (fun k J => ?_) fun i j x y hx hy nW a ha b hb => ?_
   ·obtain⟨i,I⟩:=List.mem_iff_getElem?.1 J
    exact(hE i k I).jX
   ·have h6:=(hE i x hx).bd a ha
    have h7:=(hE j y hy).bd b hb
    have hj:=(List.getElem?_eq_some_iff.1 hy).1
    have eT:ks[i+1]?=some ks[i+1]:=aG (by omega)
    have e1:fV hi ks i=some ks[i+1].key:=by rw[fV,eT]
    have e2:loK lo ks j=y.key:=by rw[loK,ax (by omega),hy]
    have h8:=h6.2 _ e1
    have h9:=h7.1
    rw[e2] at h9
    by_cases hq:i+1=j
    ·subst hq
     rw[eT] at hy
     obtain rfl:=bp hy
     grind
    ·have:=h2.jX (i+1) j _ _ eT hy (by omega) (by omega)
     grind
structure uH where
 pg:Nat
 ks:List gR
 i:Nat
def js (F:Nat→List (List Nat)→Prop)(P:Int→List Nat)(L r:Nat): List uH→Nat→Ky→Option Ky→Nat→List En→List En→List Nat→Prop
 |[],l,lo,hi,n,eL,eR,pO=>l=L∧lo=[]∧hi=none∧n=r∧eL=[]∧eR=[]∧pO=[]
 |f::fs,l,lo,hi,n,eL,eR,pO=>∃I J mE lC lD k,js F P L r fs (l+1) I J f.pg mE lC lD∧f.ks[f.i]?=some k∧k.pg=n∧lo=loK I f.ks f.i∧hi=fV J f.ks f.i∧cm (P f.pg) 204 0 (l+1) (kisC f.ks)∧Sep I J f.ks∧(fs≠[]→F (l+1) (kisC f.ks)) ∧
   (∀j k,f.ks[j]?=some k→j≠f.i→∃cs',Nv F P l (loK I f.ks j) (fV J f.ks j) cs' k.es k.ps∧F l cs'∧cm (P k.pg) 204 0 l cs') ∧
   eL=mE++(f.ks.take f.i).flatMap (·.es)∧eR=(f.ks.drop (f.i+1)).flatMap (·.es)++lC∧pO=f.pg::(lD++(f.ks.eraseIdx f.i).flatMap gu)
theorem IZ {l:List α}{x:α}(h:l[i]?=some x): l.set i x=l:=by
 apply nC
 intro j
 rw[sE]
 grind
theorem tT {g:α→List β}{l:List α}{x:α}(hi:i<l.length): (l.set i x).flatMap g=(l.take i).flatMap g++g x++(l.drop (i+1)).flatMap g:=by
 rw[D8,aH hi,mH,fE,eB]
theorem DF {g:α→List β}{l:List α}{x:α}(h:l[i]?=some x): l.flatMap g=(l.take i).flatMap g++g x++(l.drop (i+1)).flatMap g:=by
 obtain⟨I,J⟩:=List.getElem?_eq_some_iff.1 h
 have:=tT (g:=g) (x:=x) I
 rwa [IZ h] at this
theorem xu {g:α→List β}{l:List α}: (l.eraseIdx i).flatMap g=(l.take i).flatMap g++(l.drop (i+1)).flatMap g:=by
 rw[List.eraseIdx_eq_take_drop_succ,mH]
theorem I0 {k:gR}(h:ks[i]?=some k)(I:k1.pg=k.pg)(J:k1.key=k.key): kisC (ks.set i k1)=kisC ks:=by
 cases ks with
 |nil=>rfl
 |cons x t =>
  cases i with
  |zero=>simp at h;subst h;simp[kisC,I]
  |succ i =>
   have h:t[i]?=some k:=by simpa using h
   simp only[Ej,kisC]
   congr 1
   rw[AB,I,J]
   exact IZ (by rw[jv,h];rfl)
theorem Fg {k:gR}(h:ks[i]?=some k)(I:k1.key=k.key): loK lo (ks.set i k1) j=loK lo ks j:=by
 unfold loK
 rw[sE]
 grind
theorem Bf {k:gR}(h:ks[i]?=some k)(I:k1.key=k.key): fV hi (ks.set i k1) j=fV hi ks j:=by
 unfold fV
 rw[sE]
 grind
theorem Sep.set {k:gR}(h:Sep lo hi ks)(hk:ks[i]?=some k)(h1:k1.pg=k.pg)(h2:k1.key=k.key): Sep lo hi (ks.set i k1):=by
 have key:∀(j:Nat) (m:gR),(ks.set i k1)[j]?=some m→∃m',ks[j]?=some m'∧m'.key=m.key∧m'.pg=m.pg:=fun j m hm=>by
  rw[sE] at hm
  grind
 refine⟨fun e=>h.ne (iz (by have:=dn List.length e;simpa using this)),fun m hm => ?_,fun j m hm hj => ?_,fun j m hm hj => ?_,fun j j2 m m2 hm Hu a1 a2 => ?_⟩
 ·obtain⟨j,hj⟩:=List.mem_iff_getElem?.1 hm
  obtain⟨m',I,J,e3⟩:=key j m hj
  rw[←e3];exact h.pg m' (aR I)
 ·obtain⟨m',I,J,e3⟩:=key j m hm
  rw[←J];exact h.sz j m' I hj
 ·obtain⟨m',I,J,e3⟩:=key j m hm
  rw[←J];exact h.bd j m' I hj
 ·obtain⟨m',I,J,e3⟩:=key j m hm
  obtain⟨m3,e4,e5,e6⟩:=key j2 m2 Hu
  rw[←J,←e5];exact h.jX j j2 m' m3 I e4 a1 a2
theorem Nv.hole {k:gR}(J:ks[i]?=some k)(h1:k1.pg=k.pg)(h2:k1.key=k.key)(hs:Sep lo hi ks)(hb:∀j k,ks[j]?=some k→j≠i→∃cs',Nv F P l (loK lo ks j) (fV hi ks j) cs' k.es k.ps∧F l cs'∧cm (P k.pg) 204 0 l cs')(hN:Nv F P l (loK lo ks i) (fV hi ks i) cs' k1.es k1.ps)(hF:F l cs')(hp:cm (P k.pg) 204 0 l cs'):
  Nv F P (l+1) lo hi (kisC ks) ((ks.take i).flatMap (·.es)++k1.es++(ks.drop (i+1)).flatMap (·.es)) ((ks.take i).flatMap gu++gu k1++(ks.drop (i+1)).flatMap gu):=by
 have I:=(List.getElem?_eq_some_iff.1 J).1
 refine⟨ks.set i k1,(I0 J h1 h2).symm,hs.set J h1 h2,(tT I).symm,(tT I).symm,fun j m hm => ?_⟩
 rw[Fg J h2,Bf J h2]
 by_cases hj:j=i
 ·subst hj
  rw[iX I] at hm
  obtain rfl:=bp hm
  exact⟨cs',hN,hF,by rw[h1];exact hp⟩
 ·rw[kE (lN hj)] at hm
  exact hb j m hm hj
theorem js.frame : ∀ {fs:List uH} {l:Nat} {lo:Ky} {hi:Option Ky} {n:Nat} {eL eR:List En} {pO:List Nat},js F P L r fs l lo hi n eL eR pO→(∀m∈pO,P' m=P m)→js F P' L r fs l lo hi n eL eR pO:=by
 intro fs
 induction fs with
 |nil=>intro l lo hi n eL eR pO h _;exact h
 |cons f fs ih =>
  rintro l lo hi n eL eR pO ⟨I,J,mE,lC,lD,k,h1,h2,h3,h4,h5,h6,h7,Y2,h8,h9,FX,rfl⟩ hp
  refine⟨I,J,mE,lC,lD,k,ih h1 (fun m hm=>hp m (bR _ (fP _ hm))),h2,h3,h4,h5,by rw[hp _ bO];exact h6,h7,Y2,fun j m hm hj => ?_,h9,FX,rfl⟩
  obtain⟨cs',a1,a2,a3⟩:=h8 j m hm hj
  have hq:∀x∈gu m,P' x=P x:=fun x hx=>hp x (bR _ (kD _ (List.mem_flatMap.2 ⟨m,by
   rw[List.mem_eraseIdx_iff_getElem?];exact⟨j,hj,hm⟩,hx⟩)))
  exact⟨cs',a1.frame fun x hx=>hq x (bR _ hx),a2,by rw[hq m.pg bO];exact a3⟩
theorem js.down {fs:List uH}(h:js F P L r fs (l+1) lo hi n eL eR pO)(hs:Sep lo hi ks)(I:fs≠[]→F (l+1) (kisC ks))(J:cm (P n) 204 0 (l+1) (kisC ks))
 (hb:∀i k,ks[i]?=some k→∃cs',Nv F P l (loK lo ks i) (fV hi ks i) cs' k.es k.ps∧F l cs'∧cm (P k.pg) 204 0 l cs'){k:gR}(hk:ks[i]?=some k):
  js F P L r (⟨n,ks,i⟩::fs) l (loK lo ks i) (fV hi ks i) k.pg (eL++(ks.take i).flatMap (·.es)) ((ks.drop (i+1)).flatMap (·.es)++eR) (n::(pO++(ks.eraseIdx i).flatMap gu)) :=
 ⟨lo,hi,eL,eR,pO,k,h,hk,rfl,rfl,rfl,J,hs,I,fun j m hm _=>hb j m hm,rfl,rfl,rfl⟩
theorem js.Y3 : ∀ {fs:List uH} {l:Nat} {lo:Ky} {hi:Option Ky} {n:Nat} {eL eR es:List En} {pO ps:List Nat} {cs:List (List Nat)},js F P L r fs l lo hi n eL eR pO→Nv F P l lo hi cs es ps→cm (P n) 204 0 l cs→(fs≠[]→F l cs) →
  ∃I cs',Nv F P L [] none cs' (eL++es++eR) I∧cm (P r) 204 0 L cs'∧(r::I).Perm (pO++n::ps):=by
 intro fs
 induction fs with
 |nil =>
  rintro l lo hi n eL eR es pO ps cs ⟨rfl,rfl,rfl,rfl,rfl,rfl,rfl⟩ J hp _
  exact⟨ps,cs,by simpa using J,hp,List.Perm.refl _⟩
 |cons f fs ih =>
  rintro l lo hi n eL eR es pO ps cs ⟨kx,iB,mE,lC,lD,k,h1,h2,rfl,rfl,rfl,h6,h7,Y2,h8,rfl,rfl,rfl⟩ J hp hF
  have UQ:=Nv.hole (k1:=⟨k.key,k.pg,es,ps⟩) h2 rfl rfl h7 h8 J (hF (by simp)) hp
  obtain⟨I,cs',a1,a2,a3⟩:=ih h1 UQ h6 Y2
  refine⟨I,cs',by simpa[eB] using a1,a2,a3.trans ?_⟩
  rw[xu]
  rw[vt]
  intro x
  simp only[gu,vy,vE,g9]
  omega
end
variable {fs:List uH}
def fN (l:Nat)(c:List Nat): Ky:=if l=0 then(c.drop 1).take (c.getD 0 0) else c.drop 4
def rgtC (l:Nat)(cs:List (List Nat)): List (List Nat):=if l=0 then cs else match cs with|[]=>[]|c::t=>c.take 4::t
theorem pE {e:En}: fN 0 (dU e)=e.1:=by
 simp[fN,dU]
theorem pF {l n:Nat}{k:Ky}: fN (l+1) (ie n k)=k:=by
 have:=dH 4 n
 rw[fN,ax (by omega),ie,vD this]
section
variable {P:Int→List Nat} {l n:Nat}
theorem Qb : kisC (ks.take k)=(kisC ks).take k:=by
 cases ks with
 |nil=>simp[kisC]
 |cons x t =>
  cases k with
  |zero=>rfl
  |succ k=>simp[kisC,sM]
theorem Qc (J:1≤k): kisC (ks.drop k)=rgtC 1 ((kisC ks).drop k):=by
 cases ks with
 |nil=>simp[kisC,rgtC]
 |cons x t =>
  cases k with
  |zero=>omega
  |succ k =>
   simp only[List.drop_succ_cons,kisC]
   cases I:t.drop k with
   |nil =>
    have:(t.map fun k=>ie k.pg k.key).drop k=[]:=by rw[←sN,I];rfl
    rw[this];rfl
   |cons y u =>
    have:(t.map fun k=>ie k.pg k.key).drop k=ie y.pg y.key::u.map fun k=>ie k.pg k.key:=by rw[←sN,I];rfl
    rw[this]
    show kisC (y::u)=(ie y.pg y.key).take 4::_
    have:=dH 4 y.pg
    rw[kisC,ie,ie,gj this,g_]
theorem Qd : rgtC (l+1) cs=rgtC 1 cs:=rfl
theorem Nv.cut (h:Nv F P l lo hi cs es ps)(h1:1≤k)(hc:cs[k]?=some c): ∃mg jD qs qt,es=mg++jD∧ps=qs++qt∧Nv F P l lo (some (fN l c)) (cs.take k) mg qs∧Nv F P l (fN l c) hi (rgtC l (cs.drop k)) jD qt ∧
  lo<fN l c∧(∀b,hi=some b→fN l c<b)∧1≤(fN l c).length∧(fN l c).length≤96:=by
 have hk:=(List.getElem?_eq_some_iff.1 hc).1
 cases l with
 |zero =>
  obtain⟨rfl,J,rfl⟩:=h
  rw[cq] at hk
  obtain⟨e,he⟩:∃e,es[k]?=some e:=⟨_,aG hk⟩
  rw[jv,he] at hc
  obtain rfl:=bp hc
  rw[pE]
  have Gk:=aR he
  have jW:es=es.take k++es.drop k:=(iY k es).symm
  have Gm:=J.jX
  rw[jW,vo] at Gm
  have hed:e∈es.drop k:=by
   rw[List.mem_iff_getElem?]
   exact⟨0,by rw[eA];simpa using he⟩
  have hle:∀x∈es.drop k,e.1≤x.1:=fun x I=>by
   obtain⟨j,hj⟩:=List.mem_iff_getElem?.1 I
   rw[eA] at hj
   by_cases q:j=0
   ·subst q
    rw[dA,he] at hj
    obtain rfl:=bp hj
    exact oR _
   ·have:=List.pairwise_iff_getElem.1 J.jX k (k+j) (by omega) (List.getElem?_eq_some_iff.1 hj).1 (by omega)
    rw[(List.getElem?_eq_some_iff.1 hj).2,(List.getElem?_eq_some_iff.1 he).2] at this
    exact oO this
  have h0:∃x,x∈es.take k:=⟨es[0]'(by omega),by
   rw[List.mem_iff_getElem?]
   exact⟨0,by rw[gh,aH (by omega)];exact aG _⟩⟩
  refine⟨es.take k,es.drop k,[],[],jW,rfl,⟨(sM ..).symm,⟨fun x I=>⟨(J.bd x (iA I)).1,fun b hb => ?_⟩,fun x I=>J.sz x (iA I),Gm.1⟩,rfl⟩,⟨(sN ..).symm,⟨fun x I=>⟨hle x I,(J.bd x (gF I)).2⟩,fun x I=>J.sz x (gF I),Gm.2.1⟩,rfl⟩,?_,(J.bd e Gk).2,(J.sz e Gk).1,(J.sz e Gk).2.1⟩
  ·obtain rfl:=bp hb
   exact Gm.2.2 x I e hed
  ·obtain⟨x,I⟩:=h0
   have:=Gm.2.2 x I e hed
   have:=(J.bd x (iA I)).1
   grind
 |succ l =>
  obtain⟨ks,rfl,J,rfl,rfl,h5⟩:=h
  rw[iy] at hk
  obtain⟨m,hm⟩:∃m,ks[k]?=some m:=⟨_,aG hk⟩
  have xK:=j_ hm
  rw[xK] at hc
  obtain rfl:=bp hc
  rw[ax (by omega),pF]
  have jW:ks=ks.take k++ks.drop k:=(iY k ks).symm
  have hT:∀j,j<k→(ks.take k)[j]?=ks[j]?:=fun j hj=>by rw[gh,aH hj]
  have hD:∀j,(ks.drop k)[j]?=ks[k+j]?:=fun j=>eA
  refine⟨(ks.take k).flatMap (·.es),(ks.drop k).flatMap (·.es),(ks.take k).flatMap gu,(ks.drop k).flatMap gu,by rw[←mH,←jW],by rw[←mH,←jW],
   ⟨ks.take k,Qb.symm,⟨?_,fun x I=>J.pg x (iA I),fun i x I eT => ?_,fun i x I eT => ?_,fun i j x y I hy a1 a2 => ?_⟩,rfl,rfl,fun i x I => ?_⟩,
   ⟨ks.drop k,by rw[Qd];exact(Qc h1).symm,⟨?_,fun x I=>J.pg x (gF I),fun i x I eT => ?_,fun i x I eT => ?_,fun i j x y I hy a1 a2 => ?_⟩,rfl,rfl,fun i x I => ?_⟩,
   (J.bd k m hm h1).1,(J.bd k m hm h1).2,(J.sz k m hm h1).1,(J.sz k m hm h1).2⟩
  ·intro e
   have:=dn List.length e
   rw[cj,bI] at this
   omega
  ·have hj:=(List.getElem?_eq_some_iff.1 I).1
   rw[cj] at hj
   rw[hT i (by omega)] at I
   exact J.sz i x I eT
  ·have hj:=(List.getElem?_eq_some_iff.1 I).1
   rw[cj] at hj
   rw[hT i (by omega)] at I
   refine⟨(J.bd i x I eT).1,fun b hb => ?_⟩
   obtain rfl:=bp hb
   exact J.jX i k x m I hm eT (by omega)
  ·have hj:=(List.getElem?_eq_some_iff.1 hy).1
   rw[cj] at hj
   rw[hT i (by omega)] at I
   rw[hT j (by omega)] at hy
   exact J.jX i j x y I hy a1 a2
  ·have hj:=(List.getElem?_eq_some_iff.1 I).1
   rw[cj] at hj
   rw[hT i (by omega)] at I
   have e1:loK lo (ks.take k) i=loK lo ks i:=by unfold loK;rw[hT i (by omega)]
   have e2:fV (some m.key) (ks.take k) i=fV hi ks i:=by
    unfold fV
    by_cases q:i+1<k
    ·rw[hT (i+1) q]
     have:ks[i+1]?=some ks[i+1]:=aG (by omega)
     rw[this]
    ·have:i+1=k:=by omega
     rw[this,hm,Ee (by rw[cj];omega)]
   rw[e1,e2]
   exact h5 i x I
  ·intro e
   have:=dn List.length e
   rw[gi,bI] at this
   omega
  ·rw[hD] at I
   exact J.sz (k+i) x I (by omega)
  ·rw[hD] at I
   exact⟨J.jX k (k+i) m x hm I h1 (by omega),(J.bd (k+i) x I (by omega)).2⟩
  ·rw[hD] at I hy
   exact J.jX (k+i) (k+j) x y I hy (by omega) (by omega)
  ·rw[hD] at I
   have e1:loK m.key (ks.drop k) i=loK lo ks (k+i):=by
    unfold loK
    rw[ax (show ¬k+i=0 by omega)]
    by_cases q:i=0
    ·subst q
     rw[aH rfl,dA,hm]
    ·rw[ax q,hD]
   have e2:fV hi (ks.drop k) i=fV hi ks (k+i):=by unfold fV;rw[hD,lK]
   rw[e1,e2]
   exact h5 (k+i) x I
theorem js.two {f:uH}(h:js F P L r (f::fs) l lo hi n eL eR pO){cut:Ky}{n2:Nat}{DG tH:List (List Nat)}{mg jD:List En}{qs qt:List Nat}
 (h1:Nv F P l lo (some cut) DG mg qs)(g1:F l DG)(p1:cm (P n) 204 0 l DG)(h2:Nv F P l cut hi tH jD qt)(g2:F l tH)(p2:cm (P n2) 204 0 l tH)(c1:lo<cut)(c2:∀b,hi=some b→cut<b)(c3:1≤cut.length∧cut.length≤96)(tJ:n2<4294967296):
  ∃kx iB mE lC lD UR LL,js F P L r fs (l+1) kx iB f.pg mE lC lD∧Nv F P (l+1) kx iB (cN (f.i+1) (ie n2 cut) (kisC f.ks)) UR LL∧mE++UR++lC=eL++(mg++jD)++eR ∧
   (lD++f.pg::LL).Perm (pO++n::n2::(qs++qt))∧cm (P f.pg) 204 0 (l+1) (kisC f.ks)∧f.i<f.ks.length:=by
 obtain⟨kx,iB,mE,lC,lD,k,q1,q2,rfl,rfl,rfl,q6,q7,_,q8,rfl,rfl,rfl⟩:=h
 have eT:=(List.getElem?_eq_some_iff.1 q2).1
 obtain⟨k1,lR⟩:∃k1:gR,k1=⟨k.key,k.pg,mg,qs⟩:=⟨_,rfl⟩
 obtain⟨k2,j8⟩:∃k2:gR,k2=⟨cut,n2,jD,qt⟩:=⟨_,rfl⟩
 have e1:k1.pg=k.pg:=by rw[lR]
 have e2:k1.key=k.key:=by rw[lR]
 have hS:=q7.set q2 e1 e2
 have hlen:(f.ks.set f.i k1).length=f.ks.length:=bT
 have tU:kisC (cN (f.i+1) k2 (f.ks.set f.i k1))=cN (f.i+1) (ie n2 cut) (kisC f.ks):=by
  have a1:∀(i:Nat) (x:gR) (t:List gR),kisC (cN (i+1) k2 (x::t))=cN (i+1) (ie k2.pg k2.key) (kisC (x::t)):=fun i x t=>by
   simp[cN,kisC,sM,sN]
  have a2:=I0 q2 e1 e2
  cases hq:f.ks.set f.i k1 with
  |nil=>rw[hq] at hlen;simp at hlen;omega
  |cons x t =>
   rw[a1,←hq,a2,j8]
 have pJ:∀j x,(cN (f.i+1) k2 (f.ks.set f.i k1))[j]?=some x→(j≤f.i∧(f.ks.set f.i k1)[j]?=some x)∨(j=f.i+1∧x=k2)∨(f.i+1<j∧(f.ks.set f.i k1)[j-1]?=some x):=fun j x I=>by
  rw[k_ (by omega)] at I
  by_cases c1:j<f.i+1
  ·rw[aH c1] at I;exact .inl ⟨by omega,I⟩
  ·rw[ax c1] at I
   by_cases c2:j=f.i+1
   ·rw[aH c2] at I;exact .inr (.inl ⟨c2,(bp I).symm⟩)
   ·rw[ax c2] at I;exact .inr (.inr ⟨by omega,I⟩)
 have OH:(f.ks.set f.i k1)[f.i]?=some k1:=iX eT
 have Nr:kx<cut:=by have:=q7.lo_le eT;grind
 have ab0:∀b,iB=some b→cut<b:=fun b hb=>by obtain⟨a,ha,my⟩:=q7.Nt (i:=f.i) b hb;have:=c2 a ha;grind
 have tV:k2.key=cut:=by rw[j8]
 have Y4:∀j x,1≤j→j≤f.i→(f.ks.set f.i k1)[j]?=some x→x.key<cut:=fun j x a1 a2 I=>by
  have J:loK kx f.ks f.i=k.key:=by rw[loK,ax (by omega),q2]
  rw[J] at c1
  by_cases q:j=f.i
  ·subst q
   rw[OH] at I
   obtain rfl:=bp I
   rw[e2];exact c1
  ·have:=hS.jX j f.i x k1 I OH a1 (by omega)
   rw[e2] at this
   grind
 have Y5:∀j x,f.i+1≤j→(f.ks.set f.i k1)[j]?=some x→cut<x.key:=fun j x a1 I=>by
  rw[kE (by omega)] at I
  have hj:=(List.getElem?_eq_some_iff.1 I).1
  have hn:f.ks[f.i+1]?=some (f.ks[f.i+1]'(by omega)):=aG _
  have J:fV iB f.ks f.i=some (f.ks[f.i+1]'(by omega)).key:=by rw[fV,hn]
  have h4:=c2 _ J
  by_cases q:j=f.i+1
  ·subst q
   rw[hn] at I
   obtain rfl:=bp I
   exact h4
  ·have:=q7.jX (f.i+1) j _ x hn I (by omega) (by omega)
   grind
 refine⟨kx,iB,mE,lC,lD,(f.ks.take f.i).flatMap (·.es)++(mg++jD)++(f.ks.drop (f.i+1)).flatMap (·.es),(f.ks.take f.i).flatMap gu++(gu k1++gu k2)++(f.ks.drop (f.i+1)).flatMap gu,q1,
  ⟨cN (f.i+1) k2 (f.ks.set f.i k1),tU.symm,⟨?_,fun x I => ?_,fun j x I hj => ?_,fun j x I hj => ?_,fun j j2 x y I hy a1 a2 => ?_⟩,?_,?_,fun j x I => ?_⟩,by simp[eB],?_,q6,eT⟩
 ·intro e
  have:=dn List.length e
  rw[j9 (by omega)] at this
  simp at this
 ·obtain⟨j,hj⟩:=List.mem_iff_getElem?.1 I
  rcases pJ j x hj with⟨_,J⟩|⟨_,rfl⟩|⟨_,J⟩
  ·exact hS.pg x (aR J)
  ·rw[j8];exact tJ
  ·exact hS.pg x (aR J)
 ·rcases pJ j x I with⟨_,J⟩|⟨_,rfl⟩|⟨_,J⟩
  ·exact hS.sz j x J hj
  ·rw[tV];exact c3
  ·exact hS.sz (j-1) x J (by omega)
 ·rcases pJ j x I with⟨_,J⟩|⟨_,rfl⟩|⟨_,J⟩
  ·exact hS.bd j x J hj
  ·rw[tV];exact⟨Nr,ab0⟩
  ·exact hS.bd (j-1) x J (by omega)
 ·rcases pJ j x I with⟨b1,J⟩|⟨b1,rfl⟩|⟨b1,J⟩
  ·rcases pJ j2 y hy with⟨b2,h4⟩|⟨b2,rfl⟩|⟨b2,h4⟩
   ·exact hS.jX j j2 x y J h4 a1 a2
   ·rw[tV];exact Y4 j x a1 b1 J
   ·exact hS.jX j (j2-1) x y J h4 a1 (by omega)
  ·rcases pJ j2 y hy with⟨b2,h4⟩|⟨b2,rfl⟩|⟨b2,h4⟩
   ·omega
   ·omega
   ·rw[tV];exact Y5 (j2-1) y (by omega) h4
  ·rcases pJ j2 y hy with⟨b2,h4⟩|⟨b2,rfl⟩|⟨b2,h4⟩
   ·omega
   ·omega
   ·exact hS.jX (j-1) (j2-1) x y J h4 (by omega) (by omega)
 ·show _=(cN (f.i+1) k2 (f.ks.set f.i k1)).flatMap (·.es)
  rw[cN,mH,fE,List.take_set,List.drop_set,aH (by omega),tT (by rw[cj];omega),qx,kF,lR,j8]
  simp[show min f.i (f.i+1)=f.i by omega,eB]
 ·show _=(cN (f.i+1) k2 (f.ks.set f.i k1)).flatMap gu
  rw[cN,mH,fE,List.take_set,List.drop_set,aH (by omega),tT (by rw[cj];omega),qx,kF]
  simp[show min f.i (f.i+1)=f.i by omega,eB]
 ·rcases pJ j x I with⟨b1,J⟩|⟨b1,rfl⟩|⟨b1,J⟩
  ·have e3:loK kx (cN (f.i+1) k2 (f.ks.set f.i k1)) j=loK kx f.ks j:=by
    rw[←Fg q2 e2]
    unfold loK
    rw[I,J]
   rw[e3]
   by_cases q:j=f.i
   ·subst q
    rw[OH] at J
    obtain rfl:=bp J
    have e4:fV iB (cN (f.i+1) k2 (f.ks.set f.i k1)) f.i=some cut:=by
     unfold fV
     rw[k_ (by omega),ax (by omega),aH rfl]
     exact dn some tV
    rw[e4,lR]
    exact⟨DG,h1,g1,p1⟩
   ·have e4:fV iB (cN (f.i+1) k2 (f.ks.set f.i k1)) j=fV iB f.ks j:=by
     rw[←Bf q2 e2]
     unfold fV
     rw[k_ (by omega),aH (by omega)]
    rw[e4]
    rw[kE (lN q)] at J
    exact q8 j x J q
  ·subst b1
   have e3:loK kx (cN (f.i+1) x (f.ks.set f.i k1)) (f.i+1)=cut:=by
    unfold loK
    rw[ax (by omega),I]
    exact tV
   have e4:fV iB (cN (f.i+1) x (f.ks.set f.i k1)) (f.i+1)=fV iB f.ks f.i:=by
    rw[←Bf q2 e2]
    unfold fV
    rw[k_ (by omega),ax (by omega),ax (by omega)]
    rfl
   rw[e3,e4,j8]
   exact⟨tH,h2,g2,p2⟩
  ·have e3:loK kx (cN (f.i+1) k2 (f.ks.set f.i k1)) j=loK kx f.ks (j-1):=by
    rw[←Fg q2 e2]
    unfold loK
    rw[I,J,ax (by omega),ax (by omega)]
   have e4:fV iB (cN (f.i+1) k2 (f.ks.set f.i k1)) j=fV iB f.ks (j-1):=by
    rw[←Bf q2 e2]
    unfold fV
    rw[k_ (by omega),ax (by omega),ax (by omega),show j+1-1=j-1+1 by omega]
   rw[e3,e4]
   rw[kE (by omega)] at J
   exact q8 (j-1) x J (by omega)
 ·rw[xu,vt]
  intro x
  simp only[gu,lR,j8,vy,vE,g9]
  omega
end
def dY (cs:List (List Nat)): Nat:=tot cs+4*cs.length
theorem tW (h:cs[i]?=some c): dY (cs.take (i+1))=dY (cs.take i)+c.length+4:=by
 have I:=gU h
 have J:=(List.getElem?_eq_some_iff.1 h).1
 simp only[dY,cj]
 omega
theorem rI : dY (cs.take k)+dY (cs.drop k)=dY cs:=by
 have I:=sZ (a:=cs.take k) (b:=cs.drop k)
 have J:=dn List.length (iY k cs)
 rw[aX] at J
 rw[iY] at I
 simp only[dY]
 omega
structure mX (cs:List (List Nat))(least k:Nat): Prop where
 k1:1≤k
 k2:k<cs.length
 l1:least≤k
 l2:least+k≤cs.length
 s1:dY (cs.take k)≤486
 s2:dY (cs.drop k)≤486
theorem Qe (J:∀c∈cs,c.length+4≤M)(h1:1≤a)(ha:a≤dY cs): ∃k,k≤cs.length∧a≤dY (cs.take k)∧dY (cs.take k)<a+M∧1≤k:=by
 have main:∀n,n≤cs.length→a≤dY (cs.take n)→∃k,k≤n∧a≤dY (cs.take k)∧dY (cs.take k)<a+M∧1≤k:=by
  intro n
  induction n with
  |zero=>intro _ h;rw[sJ] at h;simp[dY,tot] at h;omega
  |succ n ih =>
   intro hn h
   by_cases q:a≤dY (cs.take n)
   ·obtain⟨k,k1,k2⟩:=ih (by omega) q
    exact⟨k,by omega,k2⟩
   ·have I:cs[n]?=some (cs[n]'(by omega)):=aG _
    have h2:=tW I
    have h3:=J _ (aR I)
    exact⟨n+1,aM _,h,by omega,by omega⟩
 obtain⟨k,k1,k2⟩:=main cs.length (aM _) (by rw[ja];exact ha)
 exact⟨k,k1,k2⟩
theorem Gn (I:∀c∈cs,c.length+4≤M): dY cs≤cs.length*M:=by
 induction cs with
 |nil=>simp[dY,tot]
 |cons c cs J =>
  have h1:=J fun x hx=>I x (bR _ hx)
  have h2:=I c bO
  simp only[dY,tot,aZ] at h1 ⊢
  rw[oT,AE]
  omega
theorem S_ (J:∀c∈cs,c.length+4≤229)(h1:486<dY cs)(h2:dY cs≤715): ∃k,mX cs 1 k:=by
 obtain⟨k,k1,k2,k3,I⟩:=Qe J (a:=229) (by decide) (by omega)
 have hs:=rI (cs:=cs) (k:=k)
 have hk:k<cs.length:=by
  rcases oQ k cs.length with q|q
  ·exact q
  ·rw[gd q] at k3;omega
 exact⟨k,I,hk,I,by omega,by omega,by omega⟩
theorem Ta (I:∀c∈cs,c.length+4≤104)(J:cs[0]?=some c)(hc:c.length=4)(h1:486<dY cs)(h2:dY cs≤590): ∃k,mX cs 2 k:=by
 obtain⟨k,k1,k2,k3,k4⟩:=Qe I (a:=104) (by decide) (by omega)
 have hs:=rI (cs:=cs) (k:=k)
 have e1:=tW J
 have lR:k≠1:=by rintro rfl;rw[e1] at k2;simp[dY,tot] at k2;omega
 have hd:=Gn (cs:=cs.drop k) (M:=104) fun x hx=>I x (gF hx)
 have hl:2<(cs.drop k).length:=by
  rcases oQ 2 (cs.drop k).length with q|q
  ·exact q
  ·have:=mG 104 q
   omega
 rw[gi] at hl
 exact⟨k,by omega,by omega,by omega,by omega,by omega,by omega⟩
structure BP (es:List En)(k:Ky)(i:Nat): Prop where
 le:i≤es.length
 lo:∀j e,es[j]?=some e→j<i→e.1<k
 hi:∀j e,es[j]?=some e→i≤j→k≤e.1
def xw (es:List En)(i:Nat)(same:Bool)(e:En): List En:=cond same (es.set i e) (cN i e es)
def sameE (es:List En)(k:Ky)(i:Nat): Bool:=match es[i]? with|some e=>decide (e.1=k)|none=>false
section
variable {k v:Ky}
theorem I1 {c x:α}{l:List α}: x∈cN i c l↔x=c∨x∈l:=by
 have:=iY i l
 have I:x∈l↔x∈l.take i∨x∈l.drop i:=by rw[←nD,this]
 rw[I,cN,nD,gm]
 constructor
 ·rintro(q|q|q)
  ·exact .inr (.inl q)
  ·exact .inl q
  ·exact .inr (.inr q)
 ·rintro(q|q|q)
  ·exact .inr (.inl q)
  ·exact .inl q
  ·exact .inr (.inr q)
theorem jH.put (h:jH lo hi es)(hl:BP es k i)(hb:Bd lo hi k)(h1:1≤k.length)(h2:k.length≤96)(h3:v.length≤128): jH lo hi (xw es i (sameE es k i) (k,v)):=by
 cases hs:sameE es k i with
 |true =>
  show jH lo hi (es.set i (k,v))
  obtain⟨e,he,zW⟩:∃e,es[i]?=some e∧e.1=k:=by
   unfold sameE at hs
   split at hs
   ·rename_i e he;exact⟨e,he,oJ hs⟩
   ·cases hs
  have eT:=(List.getElem?_eq_some_iff.1 he).1
  refine⟨fun x I => ?_,fun x I => ?_,?_⟩
  ·rcases lG I with q|rfl
   ·exact h.bd x q
   ·exact hb
  ·rcases lG I with q|rfl
   ·exact h.sz x q
   ·exact⟨h1,h2,h3⟩
  ·rw[List.pairwise_iff_getElem]
   intro a b ha nX my
   have hs:=List.pairwise_iff_getElem.1 h.jX a b (by simpa using ha) (by simpa using nX) my
   have e0:=(List.getElem?_eq_some_iff.1 he).2
   rw[List.getElem_set,List.getElem_set]
   split
   ·rename_i q;subst q
    rw[ax (by omega)]
    rw[e0,zW] at hs
    exact hs
   ·split
    ·rename_i _ q;subst q
     rw[e0,zW] at hs
     exact hs
    ·exact hs
 |false =>
  show jH lo hi (cN i (k,v) es)
  have h_:∀e,es[i]?=some e→e.1≠k:=fun e he q=>by
   unfold sameE at hs
   rw[he] at hs
   simp[q] at hs
  refine⟨fun x I => ?_,fun x I => ?_,?_⟩
  ·rcases I1.1 I with rfl|q
   ·exact hb
   ·exact h.bd x q
  ·rcases I1.1 I with rfl|q
   ·exact⟨h1,h2,h3⟩
   ·exact h.sz x q
  ·have J:=h.jX
   rw[←iY i es,vo] at J
   rw[cN,vo]
   have cV:∀x∈es.take i,x.1<k:=fun x I=>by
    obtain⟨j,hj⟩:=List.mem_iff_getElem?.1 I
    have tC:=(List.getElem?_eq_some_iff.1 hj).1
    rw[cj] at tC
    rw[gh,aH (by omega)] at hj
    exact hl.lo j x hj (by omega)
   have Y6:∀x∈es.drop i,k<x.1:=fun x I=>by
    obtain⟨j,hj⟩:=List.mem_iff_getElem?.1 I
    rw[eA] at hj
    have h4:=hl.hi (i+j) x hj (by omega)
    by_cases q:j=0
    ·subst q
     have:=h_ x hj
     grind
    ·have eT:=(List.getElem?_eq_some_iff.1 hj).1
     have h5:=List.pairwise_iff_getElem.1 h.jX i (i+j) (by omega) eT (by omega)
     rw[(List.getElem?_eq_some_iff.1 hj).2] at h5
     have h6:=hl.hi i _ (aG (by omega)) (aM _)
     grind
   refine⟨J.1,List.pairwise_cons.2 ⟨fun x I=>Y6 x I,J.2.1⟩,fun x I y hy => ?_⟩
   rcases List.mem_cons.1 hy with rfl|hy
   ·exact cV x I
   ·exact J.2.2 x I y hy
def ke (l:List En)(k v:Ky): List En:=l.filter (fun e=>decide (e.1<k))++(k,v)::l.filter (fun e=>decide (k<e.1))
theorem filter_none {p:α→Bool}{l:List α}(h:∀x∈l,p x=false): l.filter p=[]:=by
 rw[List.filter_eq_nil_iff]
 intro x I
 rw[h x I];decide
theorem filter_all {p:α→Bool}{l:List α}(h:∀x∈l,p x=true): l.filter p=l:=List.filter_eq_self.2 h
theorem Tb (hs:(eL++es++eR).Pairwise fun a b=>a.1<b.1)(hl:BP es k i)(hL:∀e∈eL,e.1<k)(hR:∀e∈eR,k<e.1): ke (eL++es++eR) k v=eL++xw es i (sameE es k i) (k,v)++eR:=by
 have jW:=iY i es
 have hT:∀x∈es.take i,x.1<k:=fun x I=>by
  obtain⟨j,J⟩:=List.mem_iff_getElem?.1 I
  have tC:=(List.getElem?_eq_some_iff.1 J).1
  rw[cj] at tC
  rw[gh,aH (by omega)] at J
  exact hl.lo j x J (by omega)
 have hD:∀x∈es.drop i,k≤x.1:=fun x I=>by
  obtain⟨j,J⟩:=List.mem_iff_getElem?.1 I
  rw[eA] at J
  exact hl.hi (i+j) x J (by omega)
 have a1:eL.filter (fun e=>decide (e.1<k))=eL:=filter_all fun x I=>decide_eq_true (hL x I)
 have a2:eL.filter (fun e=>decide (k<e.1))=[]:=filter_none fun x I=>decide_eq_false (by have:=hL x I;grind)
 have a3:eR.filter (fun e=>decide (e.1<k))=[]:=filter_none fun x I=>decide_eq_false (by have:=hR x I;grind)
 have a4:eR.filter (fun e=>decide (k<e.1))=eR:=filter_all fun x I=>decide_eq_true (hR x I)
 have a5:es.filter (fun e=>decide (e.1<k))=es.take i:=by
  conv=>lhs;rw[←jW]
  rw[oI,filter_all fun x I=>decide_eq_true (hT x I),filter_none fun x I=>decide_eq_false (by have:=hD x I;grind),g_]
 have Gm:es.Pairwise fun a b=>a.1<b.1:=(List.pairwise_append.1 (List.pairwise_append.1 hs).1).2.1
 unfold ke
 rw[oI,oI,oI,oI,a1,a2,a3,a4,a5,g_,cO]
 cases hq:sameE es k i with
 |true =>
  obtain⟨e,he,zW⟩:∃e,es[i]?=some e∧e.1=k:=by
   unfold sameE at hq
   split at hq
   ·rename_i e he;exact⟨e,he,oJ hq⟩
   ·cases hq
  have eT:=(List.getElem?_eq_some_iff.1 he).1
  have LM:es.drop i=e::es.drop (i+1):=by
   rw[mF eT,(List.getElem?_eq_some_iff.1 he).2]
  have a6:es.filter (fun e=>decide (k<e.1))=es.drop (i+1):=by
   conv=>lhs;rw[←jW,LM]
   rw[oI,List.filter_cons,filter_none fun x I=>decide_eq_false (by have:=hT x I;grind),ax (by simp[zW]),cO]
   refine filter_all fun x I=>decide_eq_true ?_
   have h2:(e::es.drop (i+1)).Pairwise fun a b=>a.1<b.1:=by rw[←LM];exact Gm.sublist (List.drop_sublist _ _)
   have:=(List.pairwise_cons.1 h2).1 x I
   rw[zW] at this;exact this
  rw[a6]
  show _=eL++es.set i (k,v)++eR
  rw[D8,aH eT]
  simp[eB]
 |false =>
  have h_:∀e,es[i]?=some e→e.1≠k:=fun e he q=>by
   unfold sameE at hq
   rw[he] at hq
   simp[q] at hq
  have a6:es.filter (fun e=>decide (k<e.1))=es.drop i:=by
   conv=>lhs;rw[←jW]
   rw[oI,filter_none fun x I=>decide_eq_false (by have:=hT x I;grind),cO]
   refine filter_all fun x I=>decide_eq_true ?_
   have h4:=hD x I
   obtain⟨j,J⟩:=List.mem_iff_getElem?.1 I
   rw[eA] at J
   by_cases q:j=0
   ·subst q
    have:=h_ x J
    grind
   ·have eT:=(List.getElem?_eq_some_iff.1 J).1
    have h5:=List.pairwise_iff_getElem.1 Gm i (i+j) (by omega) eT (by omega)
    rw[(List.getElem?_eq_some_iff.1 J).2] at h5
    have h6:=hl.hi i _ (aG (by omega)) (aM _)
    grind
  rw[a6]
  show _=eL++cN i (k,v) es++eR
  simp[cN,eB]
end
section
variable {P:Int→List Nat}
theorem js.bd : ∀ {fs:List uH} {l:Nat} {lo:Ky} {hi:Option Ky} {n:Nat} {eL eR:List En} {pO:List Nat},js F P L r fs l lo hi n eL eR pO→(∀e∈eL,e.1<lo)∧∀e∈eR,∃b,hi=some b∧b≤e.1:=by
 intro fs
 induction fs with
 |nil=>rintro l lo hi n eL eR pO ⟨_,_,_,_,rfl,rfl,_⟩;exact⟨fun e he=>(by cases he),fun e he=>(by cases he)⟩
 |cons f fs ih =>
  rintro l lo hi n eL eR pO ⟨kx,iB,mE,lC,lD,k,h1,h2,rfl,rfl,rfl,h6,h7,_,h8,rfl,rfl,rfl⟩
  obtain⟨i1,i2⟩:=ih h1
  have eT:=(List.getElem?_eq_some_iff.1 h2).1
  refine⟨fun e he => ?_,fun e he => ?_⟩
  ·rcases List.mem_append.1 he with he|he
   ·have:=i1 e he;have:=h7.lo_le eT;grind
   ·obtain⟨x,hx,he⟩:=List.mem_flatMap.1 he
    obtain⟨j,I⟩:=List.mem_iff_getElem?.1 hx
    have tC:=(List.getElem?_eq_some_iff.1 I).1
    rw[cj] at tC
    rw[gh,aH (by omega)] at I
    obtain⟨cs',a1,_,_⟩:=h8 j x I (by omega)
    have hb:=(a1.ok.bd e he).2
    have J:f.ks[j+1]?=some (f.ks[j+1]'(by omega)):=aG _
    have h9:=hb (f.ks[j+1]'(by omega)).key (by rw[fV,J])
    have e1:loK kx f.ks f.i=k.key:=by rw[loK,ax (by omega),h2]
    rw[e1]
    by_cases q:j+1=f.i
    ·have FX:f.ks[j+1]?=some k:=by rw[q];exact h2
     rw[J] at FX
     rw[←bp FX]
     exact h9
    ·have:=h7.jX (j+1) f.i _ k J h2 (by omega) (by omega)
     grind
  ·rcases List.mem_append.1 he with he|he
   ·obtain⟨x,hx,he⟩:=List.mem_flatMap.1 he
    obtain⟨j,I⟩:=List.mem_iff_getElem?.1 hx
    rw[eA] at I
    obtain⟨cs',a1,_,_⟩:=h8 (f.i+1+j) x I (by omega)
    have hb:=(a1.ok.bd e he).1
    rw[loK,ax (by omega),I] at hb
    have Py:=(List.getElem?_eq_some_iff.1 I).1
    have J:f.ks[f.i+1]?=some (f.ks[f.i+1]'(by omega)):=aG _
    refine⟨(f.ks[f.i+1]'(by omega)).key,by rw[fV,J],?_⟩
    by_cases q:j=0
    ·subst q
     rw[dA,J] at I
     obtain rfl:=bp I
     exact hb
    ·have:=h7.jX (f.i+1) (f.i+1+j) _ x J I (by omega) (by omega)
     grind
   ·obtain⟨b,hb,ON⟩:=i2 e he
    obtain⟨a,ha,my⟩:=h7.Nt (i:=f.i) b hb
    exact⟨a,ha,by grind⟩
end
def iM (l:Nat)(cs:List (List Nat)): Prop:=if l=0 then cs≠[] else 2≤cs.length
section
variable {P:Int→List Nat}
theorem Tc {g:gR→Nat}{f:gR→List Nat}: ∀ {ks:List gR},(∀k∈ks,(f k).length+z≤g k)→(ks.flatMap f).length+z*ks.length≤(ks.map g).sum:=by
 intro ks
 induction ks with
 |nil=>intro _;simp
 |cons k ks I =>
  intro h
  have h1:=h k bO
  have h2:=I fun x J=>h x (bR _ J)
  rw[fE,aX,jb,List.sum_cons,aZ,Nat.mul_add,cz]
  omega
theorem Y7 : (ks.map fun k=>2*k.es.length).sum=2*(ks.flatMap (·.es)).length:=by
 induction ks with
 |nil=>rfl
 |cons k ks I=>rw[jb,List.sum_cons,fE,aX,I];omega
theorem Nv.count : ∀ {l:Nat} {lo:Ky} {hi:Option Ky} {cs:List (List Nat)} {es:List En} {ps:List Nat},Nv iM P l lo hi cs es ps→iM l cs→ps.length+2≤2*es.length∧2^l≤es.length∧l≤ps.length:=by
 intro l
 induction l with
 |zero =>
  rintro lo hi cs es ps ⟨rfl,h2,rfl⟩ h
  have h:es.map dU≠[]:=h
  have:1≤es.length:=by
   cases es with
   |nil=>exact absurd rfl h
   |cons x t=>simp
  exact⟨by rw[bI];omega,this,aM _⟩
 |succ l ih =>
  rintro lo hi cs es ps ⟨ks,rfl,h2,rfl,rfl,h5⟩ h
  have h:2≤(kisC ks).length:=by rw[iM,ax (by omega)] at h;exact h
  rw[iy] at h
  have I:∀k∈ks,k.ps.length+2≤2*k.es.length∧2^l≤k.es.length∧l≤k.ps.length:=fun k hm=>by
   obtain⟨i,hi⟩:=List.mem_iff_getElem?.1 hm
   obtain⟨cs',a1,a2,_⟩:=h5 i k hi
   exact ih a1 a2
  have J:=Tc (g:=fun k=>2*k.es.length) (f:=gu) (z:=1) (ks:=ks) fun k hm=>by
   have:=(I k hm).1
   rw[gu,aZ];omega
  rw[Y7] at J
  match ks,h,I,J with
  |k1::k2::t,_,I,J =>
   have a1:=I k1 (by simp)
   have a2:=I k2 (by simp)
   refine⟨?_,?_,?_⟩
   ·simp only[aZ] at J;omega
   ·simp only[fE,aX];rw[Nat.pow_succ];omega
   ·simp only[fE,aX,gu,aZ];omega
end
section
variable {v:V} {m:List Nat}
theorem Fh {n b:Nat}(s:Sat h (aQ (.sl id 0 n cap) l::S))(hn:n=l.length)(my:a<b)(hb:b≤l.length): ∃I,slR (.sl id 0 n cap) a b=.sl id a (b-a) I:=by
 cases cap with
 |exact c =>
  refine⟨.exact (c-a),?_⟩
  simp only[slR]
  by_cases hca:c=a
  ·obtain⟨m',r,h1,h2,h3⟩:=s.at (k:=0) rfl
   rcases h3.2 with⟨e,_⟩|⟨J,cs',c',e,hg,Pc⟩|⟨J,e,_⟩
   ·cases e
   ·grind
   ·grind
  grind[eD]
 |rest e alt=>simp[slR]
theorem I2 {c:Nat}{rest:List V}(s:Sat h (pt id (.cells c (ofBytes l++rest) false)::S))(J:l.length+rest.length=c)(hm:a+m.length≤l.length)(h1:1≤m.length):
  wrN h id a (ofBytes m)=some (h.put id (some (.cells c (ofBytes (aF l a m)++rest) false))):=by
 simp only[wrN,s.row (k:=0) rfl,cQ]
 rw[aP.2 (by omega),ag]
 have e0:(ofBytes l++rest).take a++(ofBytes m++(ofBytes l++rest).drop (a+m.length))=ofBytes (aF l a m)++rest:=by
  grind[cQ,tG,yO,aF,qQ]
 cases I:(Nat.beq a 0&&Nat.beq m.length c)<;>grind[beq_iff,List.drop_eq_nil_of_le,cQ]
theorem Qf (s:Sat h (aQ v l::S)){b n:Nat}(ha:a+n≤l.length)(hb:b+n≤l.length)(h1:1≤n):
  ∃h',copyV Tryz.prog h 29 (slR v a (a+n)) (slR v b (b+n))=some (.int .i64 (n:Nat),h')∧Sat h' (aQ v (aF l a ((l.drop b).take n))::S):=by
 have hv:=(s.buf (k:=0) rfl).1
 obtain⟨id,c,cap,rest,rfl,s1,hc,hf⟩:=s.dP (by omega)
 obtain⟨adG,e1⟩:=Fh (a:=a) (b:=a+n) s rfl (by omega) ha
 obtain⟨H7,e2⟩:=Fh (a:=b) (b:=b+n) s rfl (by omega) hb
 have J:=(s.buf (k:=0) rfl).view
 rw[e1,e2,sD,sD]
 have hz:((l.drop b).take n).length=n:=by rw[cj,gi];omega
 have hg:=s1.row (k:=0) rfl
 have jK:rdN h id b (Nat.min n n*1)=some (ofBytes ((l.drop b).take n)):=by
  rw[cz,show Nat.min n n=n from Nat.min_self n]
  have I:=(fI J (a:=b) (b:=b+n) (by omega) hb).2.1
  rw[e2,sD,kF,sD] at I
  exact I.rdN.2
 simp only[copyV,ak,d_,jK]
 rw[I2 s1 hc (by rw[hz];omega) (by rw[hz];omega)]
 refine⟨_,by rw[show Nat.min n n=n from Nat.min_self n],hf _ _ (bL (by rw[hz];omega)) (ur hv (fun x hx=>hv x (gF (iA hx)))) ?_⟩
 exact s1.put (k:=0) rfl
theorem Qg (s:Sat h (aQ v l::S)){b:Nat}(J:a<b)(hb:b≤l.length):
  ∃h',clearV Tryz.prog h 29 (slR v a b)=some h'∧Sat h' (aQ v (aF l a (List.replicate (b-a) 0))::S):=by
 have hv:=(s.buf (k:=0) rfl).1
 obtain⟨id,c,cap,rest,rfl,s1,hc,hf⟩:=s.dP (by omega)
 obtain⟨I,e1⟩:=Fh (a:=a) (b:=b) s rfl (by omega) hb
 rw[e1]
 have e2:repeatL [V.int .u8 0] (b-a)=ofBytes (List.replicate (b-a) 0):=La _
 refine⟨_,?_,hf _ (aF l a (List.replicate (b-a) 0)) (bL (by rw[fc];omega)) (ur hv (fun x hx=>by rw[vk hx];decide)) (s1.put (k:=0) rfl)⟩
 simp only[clearV,ak,oC,V.cells,aZ,bI]
 rw[aP.2 (by omega:1≤b-a),show(Nat.ble 1 (0+1)&&true)=true from rfl,ag,e2,I2 s1 hc (by rw[fc];omega) (by rw[fc];omega)]
end
section
variable {o:Oper} {v:V} {m:List Nat}
theorem OpR.aaY {b a2 b2 n:Nat}(hP:C.P=Tryz.prog)(s:Sat h (aQ v l::S))(I:o.op=.call cl)(hc:cl.callee=.builtin .copy)(J:cl.argTypes = #[29,29])(hx:lookArgs E cl.args.toList=some [slR v a a2,slR v b b2])
 (ea:a2=a+n)(eb:b2=b+n)(ha:a+n≤l.length)(hb:b+n≤l.length)(hl:1≤l.length): OpR C E h o fun _ h₁=>Sat h₁ (aQ v (aF l a ((l.drop b).take n))::S):=by
 subst ea eb
 by_cases h1:1≤n
 ·obtain⟨h₁,e1,e2⟩:=Qf s ha hb h1
  refine OpR.builtin I hc hx ⟨.int .i64 (n:Nat),h₁,?_,e2⟩
  simp only[builtinV,hP,J,e1]
 ·have hn:n=0:=by omega
  subst hn
  obtain⟨h₁,e1,e2⟩:=Gg (a:=a) (b:=b) s ha hb hl
  refine OpR.builtin I hc hx ⟨.int .i64 0,h₁,?_,?_⟩
  ·simp only[builtinV,hP,J,dA,e1]
  ·rw[sJ,aF,bI,dA,cO,iY];exact e2
theorem OpR.Y8 {b:Nat}(hP:C.P=Tryz.prog)(s:Sat h (aQ v l::S))(I:o.op=.call cl)(hc:cl.callee=.builtin .clear)(J:cl.argTypes = #[29])(hx:lookArgs E cl.args.toList=some [slR v a b])
 (my:a<b)(hb:b≤l.length): OpR C E h o fun _ h₁=>Sat h₁ (aQ v (aF l a (List.replicate (b-a) 0))::S):=by
 obtain⟨h₁,e1,e2⟩:=Qg s my hb
 refine OpR.builtin I hc hx ⟨.aW [],h₁,?_,e2⟩
 simp only[builtinV,hP,J,e1,fQ]
end
section
variable {told:cy} {v:V}
theorem I3 (hT:W told)(s:Sat h S)(hk:getA S k=some X)(J:bX X (b5 v b))(hp:cm b kd link extra cs)(hc:cs[i]?=some c):
  Call ⟨Tryz.prog,told⟩ 187 [.agg [v],.int .i64 (i:Int)] h fun r h'=>∃f,r=slR3 v f (f+c.length) (f+c.length)∧bX X (b5 r c)∧Sat h' S:=by
 have hv:=s.aq hk J
 have hl:=hp.len
 have hi:=(List.getElem?_eq_some_iff.1 hc).1
 have qa:=hp.low
 obtain⟨s0,s1,s2,s3⟩:=hp.slot i c hc
 have I:=hp.cell hc
 generalize hf:bu b i=f at s0 s1 s3 I
 obtain⟨pi,po,pc,rfl⟩:=gp hv (by omega)
 refine Call.of_wp (hT.free _ rfl) Tryz.func187 rfl rfl (zg rfl ?_)
 refine aA.cB s rfl rfl rfl (fH rfl rfl) (fun p2 h s => ?_)
 refine zk 4 rfl (zl rfl (s.cg (k:=0) rfl br aU) (zm rfl (zc rfl (qF hT s (jA hk) J hl (by omega)) ?_)))
 rintro r h' ⟨rfl,s⟩
 rw[hf,s2]
 refine zk 8 rfl (zY s 0 dZ ah rfl (zk 3 rfl (zb rfl (by exact aO (ay (by omega) (by omega))) ?_)))
 refine zk 2 rfl (zb rfl (by exact aO (ay (by omega) (by omega))) ?_)
 have e1:(f:Int)+(c.length:Int)=((f+c.length:Nat):Int):=by omega
 have iI:=qU (s.aq (jA hk) J) (a:=f) (b:=f+c.length) (c:=f+c.length) (by omega) (aM _) (by omega) (by omega)
 rw[e1]
 refine zo rfl (bS (p:=some (.int .i64 (f:Int))) (q:=some (.int .i64 ((f+c.length:Nat):Int))) (m:=some (.int .i64 ((f+c.length:Nat):Int))) (p':=some f) (q':=some (f+c.length)) (m':=some (f+c.length)) rfl rfl rfl rfl (by rw[b9 (by omega)];rfl) (by rw[b9 (by omega)];rfl) (by rw[b9 (by omega)];rfl) iI) ?_
 refine zk 2 rfl (WP.ret ⟨aa,_,rfl,?_⟩)
 refine⟨f,rfl,?_,s.drop⟩
 have:=yQ J (a:=f) (b:=f+c.length) (c:=f+c.length) (by omega) (aM _) (by omega) (by omega)
 rw[kF,show f+c.length-f=c.length by omega,I] at this
 exact this
theorem I4 (I:W told)(s:Sat h S)(J:getA S k=some X)(hX:bX X (b5 v b))(hp:cm b kd link extra cs):
  Call ⟨Tryz.prog,told⟩ 125 [.agg [v]] h fun r h'=>r=.int .i64 ((dw b:Int)-(26+4*(cs.length:Int)))∧Sat h' S:=by
 have hv:=s.aq J hX
 have hl:=hp.len
 have qa:=hp.low
 obtain⟨pi,po,pc,rfl⟩:=gp hv (by omega)
 refine Call.of_wp (I.free _ rfl) Tryz.func125 rfl rfl (zg rfl ?_)
 refine aA.cB s rfl rfl rfl (fH rfl rfl) (fun p1 h s => ?_)
 refine zk 3 rfl ?_
 have s0:=s
 refine WP.drawn [none,none,some (1,2),some (0,2),af,af,af,af] rfl (by kernel_rfl) (by kernel_rfl) ?_
 refine zL rfl (s.cg (k:=0) rfl br aU) (aE.any rfl rfl rfl rfl (OpR.call rfl rfl rfl rfl (yW I s (jA J) hX hl)) ?_)
 rintro r h' ⟨rfl,s⟩
 have s1:=s
 refine zO rfl (az rfl rfl (by exact ei (ay (by omega) (by omega)))) ?_
 refine zL rfl (s.cg (k:=0) rfl br aU) (aE.any rfl rfl rfl rfl (OpR.call rfl rfl rfl rfl (fJ I s (jA J) hX hl)) ?_)
 rintro r h' ⟨rfl,s⟩
 rw[hp.fg]
 refine zO rfl (az rfl rfl (by exact jq (ay (by omega) (by omega)))) ?_
 refine zO rfl (az rfl rfl (by exact ei (ay (by omega) (by omega)))) ?_
 refine zA rfl ?_
 refine aE.nil ⟨⟨aa,aa,fun _ _=>.inr ⟨rfl,⟨_,az rfl rfl (by exact ei (ay (by omega) (by omega)))⟩,bj _ rfl⟩,ga (.inr ⟨rfl,⟨_,o_load rfl (s0.cg (k:=0) rfl br aU)⟩,bj _ rfl⟩) (.inr ⟨rfl,⟨_,o_load rfl (s1.cg (k:=0) rfl br aU)⟩,bj _ rfl⟩),aa,aa,aa,aa,aa⟩,?_⟩
 refine WP.ret ⟨aa,_,rfl,?_⟩
 exact⟨dn (V.int .i64) (by omega),s.drop⟩
theorem Kq (hT:W told)(hX:bX X (b5 x b))(FW:x.cells=[x])(J:cm b kd link extra cs): ∀(m i:Nat) (h:H) (E:List (Nat×V)) (Q:Ex→List (Nat×V)→H→Prop),i+m=cs.length →
  Sat h (pt p1 (.cells 1 [x] false)::X::S)→Has E [(1,.ptr p1 0),(3,.int .i64 (486-(4*(cs.length:Int)+(tot (cs.take i):Int)))),(12,.int .i64 (cs.length:Int)),(13,.int .i64 (i:Int))] →
  (∀E' h',Has E' [(3,.int .i64 (486-(4*(cs.length:Int)+(tot cs:Int))))]→Sat h' (pt p1 (.cells 1 [x] false)::X::S)→Q (.exit 0) E' h')→WP ⟨Tryz.prog,told⟩ 27 (.loop pfL) E h Q:=by
 have hl:=J.len
 have dN:=J.fits
 intro m
 induction m with
 |zero =>
  intro i h E Q hi s hE hq
  refine WP.loop (WP.has hE (zg rfl (zC rfl aL (by simp<;>omega) ?_)))
  refine zk 3 rfl (WP.exit ?_)
  refine hq _ _ ⟨?_,aa⟩ s
  rw[show cs.take i=cs from gd (by omega)]
  rfl
 |succ m ih =>
  intro i h E Q hi s hE hq
  have I:cs[i]?=some (cs[i]'(by omega)):=aG _
  generalize (cs[i]'(by omega))=c at I
  obtain⟨s0,s1,s2,s3⟩:=J.slot i c I
  have Gb:=jP (cs:=cs) (i:=i+1)
  have IS:=gU I
  refine WP.loop (WP.has hE (zg rfl (zB rfl aL (by simp<;>omega) ?_)))
  refine zk 5 rfl (WP.block (zK 7 rfl (zl rfl (s.cg (k:=0) rfl br aU) (zm rfl (zc rfl (qF hT (i:=i) s (k:=1) rfl hX hl (by omega)) ?_)))))
  rintro r h' ⟨rfl,s⟩
  rw[s2]
  refine zk 9 rfl (zb rfl (by exact ei (ay (by omega) (by omega))) ?_)
  refine za rfl (zv (zr rfl (zb rfl (by exact aO (ay (by omega) (by omega))) ?_)))
  refine zm rfl (zv ?_)
  refine ih (i+1) _ _ Q (by omega) s ⟨rfl,?_,rfl,rfl,aa⟩ hq
  exact dn (fun z=>some (V.int .i64 z)) (by omega)
theorem Gp (J:W told)(s:Sat h (X::S))(hX:bX X (b5 v b))(I:cm b kd link extra cs):
  Call ⟨Tryz.prog,told⟩ 123 [.agg [v]] h fun r h'=>r=.int .i64 (486-(4*(cs.length:Int)+(tot cs:Int)))∧Sat h' (X::S):=by
 have hv:=s.aq (k:=0) rfl hX
 have hl:=I.len
 have dN:=I.fits
 obtain⟨pi,po,pc,rfl⟩:=gp hv (by omega)
 refine Call.of_wp (J.free _ rfl) Tryz.func123 rfl rfl (zg rfl ?_)
 refine aA.cB s rfl rfl rfl (fH rfl rfl) (fun p1 h s => ?_)
 refine zk 4 rfl (zl rfl (s.cg (k:=0) rfl br aU) (zc rfl (fJ J s (k:=1) rfl hX hl) ?_))
 rintro r h' ⟨rfl,s⟩
 rw[I.fg]
 refine zb rfl (by exact jq (ay (by omega) (by omega))) ?_
 refine zb rfl (by exact ei (ay (by omega) (by omega))) ?_
 refine zk 5 rfl (zl rfl (s.cg (k:=0) rfl br aU) (zc rfl (fJ J s (k:=1) rfl hX hl) ?_))
 rintro r h' ⟨rfl,s⟩
 rw[I.fg]
 refine zk 2 rfl (WP.block ?_)
 refine Kq J hX rfl I cs.length 0 _ _ _ (by omega) s ⟨rfl,?_,rfl,rfl,aa⟩ (fun E' h' hE s' => ?_)
 ·exact dn (fun z=>some (V.int .i64 z)) (by have:tot (cs.take 0)=0:=rfl;omega)
 have s:=s'
 exact WP.has hE (zK 5 rfl (WP.ret ⟨aa,_,rfl,rfl,s.del 0⟩))
noncomputable def anL : Code:=cE [1,1,1,1,0,1,0,0] ((Tryz.f126.body).getD .skip)
theorem Qh (hT:W told){p2:Nat}(hp:cm b0 kd link extra cs): ∀(m i lo:Nat) (b:List Nat) (h:H) (E:List (Nat×V)) (Q:Ex→List (Nat×V)→H→Prop),i+m=cs.length→lo+tot (cs.take i)=512→An b0 cs i b →
  Sat h (pt p1 (.cells 1 [v] false)::pt p2 (.cells 1 [w] false)::aQ v b::aQ w b0::S)→Has E [(1,.ptr p1 0),(2,.ptr p2 0),(3,.int .i64 (lo:Int)),(4,.int .i64 (cs.length:Int)),(13,.int .i64 (cs.length:Int)),(14,.int .i64 (i:Int))] →
  (∀E' h' lo b',lo+tot cs=512→An b0 cs cs.length b'→Has E' [(1,.ptr p1 0),(2,.ptr p2 0),(3,.int .i64 (lo:Int)),(4,.int .i64 (cs.length:Int))]→Sat h' (pt p1 (.cells 1 [v] false)::pt p2 (.cells 1 [w] false)::aQ v b'::aQ w b0::S)→Q (.exit 0) E' h')→WP ⟨Tryz.prog,told⟩ 48 (.loop anL) E h Q:=by
 have FK:=hp.len
 have dN:=hp.fits
 intro m
 induction m with
 |zero =>
  intro i lo b h E Q hi jC ha s hE hq
  have hi:i=cs.length:=hi
  subst hi
  rw[ja] at jC
  refine WP.loop (WP.has hE (zg rfl (zC rfl aL (by simp) ?_)))
  exact zk 3 rfl (WP.exit (hq _ _ _ _ jC ha ⟨rfl,rfl,rfl,rfl,aa⟩ s))
 |succ m ih =>
  intro i lo b h E Q hi jC ha s hE hq
  have J:cs[i]?=some (cs[i]'(by omega)):=aG _
  generalize (cs[i]'(by omega))=c at J
  have hl:=ha.len
  have Gb:=jP (cs:=cs) (i:=i+1)
  have IS:=gU J
  obtain⟨I,Nr⟩:∃I,I+c.length=lo:=⟨lo-c.length,by omega⟩
  obtain⟨lz,_,cap,_,rfl,_⟩:=(s.ae [2]).dP (by omega)
  refine WP.loop (WP.has hE (zg rfl (zB rfl aL (by simp;omega) ?_)))
  refine zk 5 rfl (WP.block (zK 7 rfl (zl rfl (s.cg (k:=1) rfl br aU) (zm rfl (zc rfl (I3 (i:=i) (c:=c) hT s (k:=3) rfl (aK _ _) hp J) ?_)))))
  rintro r h' ⟨f,rfl,hr,s⟩
  refine zk 6 rfl (zo rfl (aC rfl rfl rfl (au ak (s.aq (k:=3) rfl hr))) (zo rfl (az (r:=.int .i64 (I:Int)) rfl rfl (by rw[show((I:Nat):Int)=(lo:Int)-(c.length:Int) by omega];exact ei (ay (by omega) (by omega)))) ?_))
  refine zk 4 rfl (zY s 0 dZ ah rfl (zm rfl ?_))
  have iI:=gJ (s.aq (k:=2) rfl (aK _ _)) (a:=I) (by omega)
  refine zo rfl (bS (p:=some (.int .i64 (I:Int))) (q:=none) (m:=none) (p':=some I) (q':=none) (m':=none) rfl rfl rfl rfl (by rw[b9 (by omega)];rfl) rfl rfl iI.1) ?_
  refine zm rfl (aA.any rfl rfl rfl (OpR.G8 rfl (s.ae [2,2]) hr rfl rfl rfl rfl (by omega) (aM _) (by omega)) ?_)
  intro r h s
  rw[gd (by omega)] at s
  have s:=s.ae [2,2,0,0]
  dsimp only[aT,bringA,getA] at s
  have l1:(aF b I c).length=512:=by rw[bL (by omega),hl]
  refine zk 2 rfl (zl rfl (s.cg (k:=0) rfl br aU) (zk 3 rfl (zo rfl (aC rfl rfl rfl (au ak (s.aq (k:=3) rfl hr))) (zc rfl (qg (i:=i) (f:=I) (z:=c.length) hT (s.ae [2]) l1 (by omega) (by omega) (by omega)) ?_))))
  rintro r h ⟨rfl,s⟩
  have s:=s.ae [1,1,0,0]
  dsimp only[aT,bringA,getA] at s
  refine zv (zr rfl (zb rfl (by exact aO (ay (by omega) (by omega))) ?_))
  refine zm rfl (zv ?_)
  exact ih (i+1) I _ _ _ Q (by omega) (by omega) (ha.step dN J (by omega)) s ⟨rfl,rfl,rfl,rfl,rfl,rfl,aa⟩ hq
theorem LN (I:W told)(s:Sat h (aQ v b::S))(J:cm b kd link extra cs)(hr:26+4*cs.length+tot cs<512):
  Call ⟨Tryz.prog,told⟩ 126 [.agg [v]] h fun r h'=>r=.aW []∧∃b',dX b' kd link extra cs∧Sat h' (aQ v b'::S):=by
 have hl:=J.len
 have hle:∀n,(le 2 n).length=2:=fun n=>dH 2 n
 obtain⟨lz,_,cap,_,rfl,_⟩:=s.dP (by omega)
 refine Call.of_wp (I.free _ rfl) Tryz.func126 rfl rfl (zg rfl ?_)
 refine aA.cB s rfl rfl rfl (fH rfl rfl) (fun p1 h s => ?_)
 refine zk 3 rfl (zY s 0 dZ ah rfl (aA.any rfl rfl rfl (OpR.lX rfl ((s.ae [1]).rA) (aK _ _) rfl rfl rfl rfl (by simp;omega)) ?_))
 intro w h s
 rw[cO] at s
 obtain⟨wid,_,Ni,_,rfl,_⟩:=s.dP (by omega)
 refine zo rfl (cP rfl (by rw[wV];rfl)) ?_
 refine aA.cB s rfl rfl rfl (cF iJ) (fun p2 h s => ?_)
 refine zS rfl (s.iK (j:=0) rfl aU rfl rfl) ?_
 intro h s
 have s:=s.ae [3,0,1,0]
 refine zk 7 rfl (zl rfl (s.cg (k:=0) rfl br aU) (zc rfl (fJ I s (k:=2) rfl (aK _ _) hl) ?_))
 rintro r h' ⟨rfl,s⟩
 rw[J.fg]
 refine zk 8 rfl (WP.block (Qh I J cs.length 0 512 _ _ _ _ (by omega) rfl (An.start hl) s ⟨rfl,rfl,rfl,rfl,rfl,rfl,aa⟩ fun E' h' lo b' jC ha fh s' => ?_))
 have s:=s'
 have Bx:=ha.len
 refine WP.has fh ?_
 have q1:((26:Int)+4*(cs.length:Int)).toNat=26+4*cs.length:=by omega
 refine zg rfl (zY s 0 dZ ah rfl (zm rfl (zb rfl (by exact jq (ay (by omega) (by omega))) ?_)))
 refine zb rfl (by exact aO (ay (by omega) (by omega))) ?_
 refine zm rfl (zo rfl (bS (p:=some (.int .i64 (26+4*(cs.length:Int)))) (q:=some (.int .i64 (lo:Int))) (m:=none) (p':=some (26+4*cs.length)) (q':=some lo) (m':=none) rfl rfl rfl rfl (by rw[b9 (by omega),q1]) (by rw[b9 (by omega)];rfl) rfl (fI (s.buf (k:=2) rfl).view (by omega) (by omega)).1) ?_)
 refine aA.mS rfl rfl (OpR.Y8 rfl (s.ae [2]) rfl rfl rfl rfl (by omega) (by omega)) ?_
 intro r h s
 refine zk 2 rfl (zl rfl (s.cg (k:=1) rfl br aU) (zm rfl (zo rfl (b8 rfl (by exact jN bP dQ (gY (by omega) (by omega)))) ?_)))
 have l1:(aF b' (26+4*cs.length) (List.replicate (lo-(26+4*cs.length)) 0)).length=512:=by rw[bL (by rw[fc];omega),Bx]
 refine zc rfl (ng (a:=16) (z:=2) (n:=lo) I s (by decide) (by decide) (by omega) (by omega)) ?_
 rintro r h ⟨rfl,s⟩
 exact zv ⟨aa,_,rfl,rfl,_,ha.done J jC,(s.del 3 |>.del 2 |>.del 1)⟩
end
section
variable {told:cy} {v:V}
noncomputable def piT : Code:=cE [1,1,1,1] ((Tryz.f53.body).getD .skip)
theorem DH (hT:W told)(hY:bX Y (b5 x c))(hp:cm b kd link extra cs)(hi:i≤cs.length)(hf:26+4*(cs.length+1)+(tot cs+c.length)≤512)(hr:30+4*cs.length+c.length≤dw b)(s:Sat h (pt p8 (.cells 1 [u] false)::aQ u b::Y::S))(hE:Has E [(1,.int .i64 (i:Int)),(2,x),(8,.ptr p8 0)])
 (hq:∀E' h' b',look E' 6=some u→look E' 7=some (.int .i64 0)→cm b' kd link extra (cN i c cs)→Sat h' (aQ u b'::Y::S)→Q .ret E' h'): WP ⟨Tryz.prog,told⟩ 78 piT E h Q:=by
 have hl:=hp.len
 have qa:=hp.low
 have I:=hp.fg
 have hle:∀n,(le 2 n).length=2:=fun n=>dH 2 n
 obtain⟨lo,J⟩:∃lo,lo+c.length=dw b:=⟨dw b-c.length,by omega⟩
 have Fi:=hp.ins (c:=c) hi J (by omega) hf
 have l0:=LJ hl hi (n:=cs.length) (by omega)
 have l1:(aF (nq b i cs.length) 14 (le 2 (cs.length+1))).length=512:=by rw[bL (by rw[hle];omega),l0]
 have iq:dw (aF (nq b i cs.length) 14 (le 2 (cs.length+1)))=lo+c.length:=by
  rw[J,dw,dw]
  exact dJ fun j h1 h2=>by rw[dS (by rw[hle];omega) (by rw[hle];omega),LK hl hi (by omega) (by omega)]
 generalize hn:cs.length=n at *
 obtain⟨lz,_,cap,_,rfl,_⟩:=(s.ae [1]).dP (by omega)
 refine WP.has hE (zg rfl (zl rfl (s.cg (k:=0) rfl br aU) (zc rfl (fJ hT s (k:=1) rfl (aK _ _) hl) ?_)))
 rintro r h' ⟨rfl,s⟩
 rw[I]
 refine zk 3 rfl ?_
 have q1:((26:Int)+4*((i:Int)+1)).toNat=30+4*i:=by omega
 have q2:((26:Int)+4*((n:Int)+1)).toNat=30+4*n:=by omega
 have q3:((26:Int)+4*(i:Int)).toNat=26+4*i:=by omega
 have q4:((26:Int)+4*(n:Int)).toNat=26+4*n:=by omega
 have s0:=s
 refine WP.drawn [af,af,af,af,af,af,af,af,af,af,af,af,af,af,af,af,af,af,af,af,af] rfl (by kernel_rfl) (by kernel_rfl) ?_
 refine zF rfl (dZ _ _) (zL rfl (s.ld (k:=0) rfl ah rfl) (zM rfl (zO rfl (az rfl rfl (by exact aO (ay (by omega) (by omega)))) ?_)))
 refine zO rfl (az rfl rfl (by exact jq (ay (by omega) (by omega)))) ?_
 refine zO rfl (az rfl rfl (by exact aO (ay (by omega) (by omega)))) ?_
 refine zM rfl (zO rfl (az rfl rfl (by exact aO (ay (by omega) (by omega)))) ?_)
 refine zO rfl (az rfl rfl (by exact jq (ay (by omega) (by omega)))) ?_
 refine zO rfl (az rfl rfl (by exact aO (ay (by omega) (by omega)))) ?_
 refine zO rfl (bS (p:=some (.int .i64 (26+4*((i:Int)+1)))) (q:=some (.int .i64 (26+4*((n:Int)+1)))) (m:=none) (p':=some (30+4*i)) (q':=some (30+4*n)) (m':=none) rfl rfl rfl rfl (by rw[b9 (by omega),q1]) (by rw[b9 (by omega),q2]) rfl (fI (s.buf (k:=1) rfl).view (by omega) (by omega)).1) ?_
 refine zF rfl (dZ _ _) (zL rfl (s.ld (k:=0) rfl ah rfl) (zM rfl (zO rfl (az rfl rfl (by exact jq (ay (by omega) (by omega)))) ?_)))
 refine zO rfl (az rfl rfl (by exact aO (ay (by omega) (by omega)))) ?_
 refine zM rfl (zO rfl (az rfl rfl (by exact jq (ay (by omega) (by omega)))) ?_)
 refine zO rfl (az rfl rfl (by exact aO (ay (by omega) (by omega)))) ?_
 refine zO rfl (bS (p:=some (.int .i64 (26+4*(i:Int)))) (q:=some (.int .i64 (26+4*(n:Int)))) (m:=none) (p':=some (26+4*i)) (q':=some (26+4*n)) (m':=none) rfl rfl rfl rfl (by rw[b9 (by omega),q3]) (by rw[b9 (by omega),q4]) rfl (fI (s.buf (k:=1) rfl).view (by omega) (by omega)).1) ?_
 refine aE.any rfl rfl rfl rfl (OpR.aaY (n:=4*(n-i)) rfl (s.ae [1]) rfl rfl rfl rfl (by omega) (by omega) (by omega) (by omega) (by omega)) ?_
 intro r h s
 have s:=s.ae [1,0]
 refine aE.nil ⟨⟨aa,aa,aa,aa,aa,aa,aa,aa,aa,aa,aa,aa,aa,aa,aa,aa,aa,aa,aa,aa,aa,aa⟩,?_⟩
 have s:Sat h (pt p8 _::aQ _ (nq b i n)::_):=s
 refine zg rfl (zl rfl (s.cg (k:=0) rfl br aU) (zm rfl (zb rfl (by exact aO (ay (by omega) (by omega))) ?_)))
 refine zo rfl (b8 rfl (by exact jN bP dQ (gY (by omega) (by omega)))) ?_
 have en:(n:Int)+1=((n+1:Nat):Int):=by omega
 rw[en]
 refine zc rfl (ng (a:=14) (z:=2) (n:=n+1) hT (s.ae [1]) (by decide) (by decide) (by omega) (by omega)) ?_
 rintro r h ⟨rfl,s⟩
 have s:=s.ae [1,0]
 refine zk 3 rfl (zl rfl (s.cg (k:=0) rfl br aU) (zk 2 rfl (zc rfl (Ce (i:=i) (lo:=lo) hT (s.ae [1,1]) hY l1 (by omega) iq (by omega)) ?_)))
 rintro r h ⟨rfl,s⟩
 have s:=s.ae [2,0,0]
 exact zk 3 rfl (zY s 0 dZ ah rfl (zk 3 rfl (WP.ret (hq _ _ _ rfl rfl Fi s.drop))))
theorem I5 (J:W told)(s:Sat h (X::Y::S))(hX:bX X (b5 v b))(hY:bX Y (b5 x c))(I:cm b kd link extra cs)(hi:i≤cs.length)(ff:c.length≤65536):
  Call ⟨Tryz.prog,told⟩ 53 [v,.int .i64 (i:Int),x] h fun r h'=>(26+4*(cs.length+1)+(tot cs+c.length)≤512∧∃u b',r=.aW [u,.int .i64 0]∧cm b' kd link extra (cN i c cs)∧Sat h' (aQ u b'::X::Y::S)) ∨
   (512<26+4*(cs.length+1)+(tot cs+c.length)∧r=.aW [.aV,.int .i64 7]∧Sat h' (X::Y::S)):=by
 have hl:=I.len
 have dN:=I.fits
 have qa:=I.low
 refine Call.of_wp (J.free _ rfl) Tryz.func53 rfl rfl (zK 8 rfl (zc rfl (pn J s hX (by omega)) ?_))
 rintro r h' (⟨hg,u,rfl,s⟩|⟨hg,rfl,s⟩)
 ·obtain⟨lz,_,cap,_,rfl,_⟩:=s.dP (by omega)
  refine zk 3 rfl ?_
  refine aA.cB s rfl rfl rfl (cF iJ) (fun p8 h s => ?_)
  dsimp only[V.cells,List.length_cons,List.length_nil,Nat.reduceAdd] at s
  refine zS rfl (s.iK (j:=0) rfl aU rfl rfl) (fun h s => ?_)
  dsimp only[setA] at s
  refine zk 3 rfl (WP.block (zK 3 rfl (zC rfl aN (rfl) (zk 6 rfl (zC rfl aL (by simp) ?_)))))
  refine zk 2 rfl (zl rfl (s.cg (k:=0) rfl br aU) (zc rfl (fJ J s (k:=1) rfl (aK _ _) hl) ?_))
  rintro r h' ⟨rfl,s⟩
  rw[I.fg]
  refine zC rfl cL (by simp;omega) ?_
  refine zk 6 rfl (zl rfl (s.cg (k:=0) rfl br aU) (zc rfl (Gp J (s.ae [1]) (aK _ _) I) ?_))
  rintro r h' ⟨rfl,s⟩
  have s:=s.ae [1,0]
  dsimp only[aT,bringA,getA] at s
  refine zm rfl (zo rfl (aC rfl rfl rfl (au ak (s.aq (k:=3) rfl hY))) (zb rfl (by exact aO (ay (by omega) (by omega))) ?_))
  by_cases hf:26+4*(cs.length+1)+(tot cs+c.length)≤512
  ·skip
   refine zC rfl aL (by simp;omega) ?_
   refine za rfl (zv (zj rfl (WP.skip (zw (zg rfl (zl rfl (by exact s.cg (k:=0) rfl br aU) ?_))))))
   refine zc rfl (I4 J s (k:=1) rfl (aK _ _) I) ?_
   rintro r h' ⟨rfl,s⟩
   refine zm rfl (zo rfl (aC rfl rfl rfl (au ak (s.aq (k:=3) rfl hY))) (zb rfl (by exact aO (ay (by omega) (by omega))) ?_))
   by_cases hr:30+4*cs.length+c.length≤dw b
   ·skip
    refine zC rfl aL (by simp;omega) ?_
    refine zv (zj rfl (WP.skip ?_))
    refine DH (i:=i) J hY I hi hf hr (s.ae [0,0,1]) ⟨rfl,rfl,rfl,aa⟩ fun E' h' b' e6 e7 rJ s'=>⟨aa,_,xm e6 e7,.inl ⟨hf,_,b',rfl,rJ,s'.ae [0,1,0]⟩⟩
   ·skip
    refine zB rfl aL (by simp;omega) ?_
    refine zk 3 rfl (zl rfl (s.cg (k:=0) rfl br aU) (zc rfl (LN J (s.ae [1]) I (by omega)) ?_))
    rintro r h ⟨rfl,b2,BM,s⟩
    have h2:=BM.low
    have s:=s.ae [1,0]
    refine zv ?_
    refine DH (i:=i) J hY BM.f hi hf (by omega) (s.ae [0,0,1]) ⟨rfl,rfl,rfl,aa⟩ fun E' h' b' e6 e7 rJ s'=>⟨aa,_,xm e6 e7,.inl ⟨hf,_,b',rfl,rJ,s'.ae [0,1,0]⟩⟩
  ·skip
   refine zB rfl aL (by simp;omega) ?_
   exact zk 8 rfl (WP.ret ⟨aa,_,rfl,.inr ⟨by omega,rfl,s.del 1 |>.del 0⟩⟩)
 ·rw[I.good] at hg;cases hg
noncomputable def prT : Code:=cE [1,1,1,1,1,1,1,1] ((Tryz.f51.body).getD .skip)
theorem DI (hT:W told)(hY:bX Y (b5 x c))(hp:cm b kd link extra cs)(hc:cs[i]?=some c')(hr:26+4*cs.length+c.length≤dw b)(hf:26+4*cs.length+tot (cs.set i c)≤512)(s:Sat h (pt p8 (.cells 1 [u] false)::aQ u b::Y::S))(hE:Has E [(1,.int .i64 (i:Int)),(2,x),(8,.ptr p8 0)])
 (hq:∀E' h' b',look E' 6=some u→look E' 7=some (.int .i64 0)→cm b' kd link extra (cs.set i c)→Sat h' (aQ u b'::Y::S)→Q .ret E' h'): WP ⟨Tryz.prog,told⟩ 79 prT E h Q:=by
 have hl:=hp.len
 have qa:=hp.low
 have hi:=(List.getElem?_eq_some_iff.1 hc).1
 obtain⟨lo,I⟩:∃lo,lo+c.length=dw b:=⟨dw b-c.length,by omega⟩
 have J:=hp.below hc I (by omega) hf
 refine WP.has hE (zg rfl (zl rfl (s.cg (k:=0) rfl br aU) (zk 2 rfl (zc rfl (Ce (i:=i) (lo:=lo) hT (s.ae [1,1]) hY hl (by omega) I.symm (by omega)) ?_))))
 rintro r h ⟨rfl,s⟩
 have s:=s.ae [2,0,0]
 exact zk 3 rfl (zY s 0 dZ ah rfl (zk 3 rfl (WP.ret (hq _ _ _ rfl rfl J s.drop))))
theorem Td (hT:W told)(s:Sat h (X::Y::S))(hX:bX X (b5 v b))(hY:bX Y (b5 x c'))(hp:cm b kd link extra cs)(hc:cs[i]?=some c)(ff:c'.length≤65536):
  Call ⟨Tryz.prog,told⟩ 51 [v,.int .i64 (i:Int),x] h fun r h'=>(26+4*cs.length+tot (cs.set i c')≤512∧∃u b',r=.aW [u,.int .i64 0]∧cm b' kd link extra (cs.set i c')∧Sat h' (aQ u b'::X::Y::S)) ∨
   (512<26+4*cs.length+tot (cs.set i c')∧r=.aW [.aV,.int .i64 7]∧Sat h' (X::Y::S)):=by
 have hl:=hp.len
 have dN:=hp.fits
 have qa:=hp.low
 have hi:=(List.getElem?_eq_some_iff.1 hc).1
 have ht:=qh (c':=c') hc
 have Y9:=qh (c':=[]) hc
 rw[bI] at Y9
 obtain⟨t0,s1,s2,s3⟩:=hp.slot i c hc
 refine Call.of_wp (hT.free _ rfl) Tryz.func51 rfl rfl (zK 8 rfl (zc rfl (pn hT s hX (by omega)) ?_))
 rintro r h' (⟨hg,u,rfl,s⟩|⟨hg,rfl,s⟩)
 ·obtain⟨lz,_,cap,_,rfl,_⟩:=s.dP (by omega)
  refine zk 3 rfl ?_
  refine aA.cB s rfl rfl rfl (cF iJ) (fun p8 h s => ?_)
  dsimp only[V.cells,List.length_cons,List.length_nil,Nat.reduceAdd] at s
  refine zS rfl (s.iK (j:=0) rfl aU rfl rfl) (fun h s => ?_)
  dsimp only[setA] at s
  refine zk 3 rfl (WP.block (zK 3 rfl (zC rfl aN (rfl) (zk 6 rfl (zC rfl aL (by simp) ?_)))))
  refine zk 2 rfl (zl rfl (s.cg (k:=0) rfl br aU) (zc rfl (fJ hT s (k:=1) rfl (aK _ _) hl) ?_))
  rintro r h' ⟨rfl,s⟩
  rw[hp.fg]
  refine zC rfl kC (by simp;omega) ?_
  refine zk 2 rfl (zv (zj rfl (WP.skip (zg rfl (zl rfl (by exact s.cg (k:=0) rfl br aU) ?_)))))
  refine zm rfl (zc rfl (qF (i:=i) hT s (k:=1) rfl (aK _ _) hl (by omega)) ?_)
  rintro r h' ⟨rfl,s⟩
  rw[s2]
  refine zk 10 rfl (zo rfl (aC rfl rfl rfl (au ak (s.aq (k:=3) rfl hY))) (zm rfl ?_))
  by_cases hle:c'.length≤c.length
  ·have Fi:=hp.rep (c':=c') hc hle
   generalize hf:bu b i=f at t0 s1 s3 Fi
   have l1:(aF b f c').length=512:=by rw[bL (by omega),hl]
   refine zB rfl wT (by simp;omega) ?_
   refine zk 4 rfl (zY s 0 dZ ah rfl (zm rfl ?_))
   have I:=gJ (s.aq (k:=1) rfl (aK _ _)) (a:=f) (by omega)
   refine zo rfl (bS (p:=some (.int .i64 (f:Int))) (q:=none) (m:=none) (p':=some f) (q':=none) (m':=none) rfl rfl rfl rfl (by rfl) rfl rfl I.1) ?_
   refine zm rfl (aA.any rfl rfl rfl (OpR.G8 rfl (s.ae [1,2]) hY rfl rfl rfl rfl (by omega) (aM _) (by omega)) ?_)
   intro r h s
   rw[gd (by omega)] at s
   have s:=s.ae [2,0,1,0]
   refine zk 3 rfl (zl rfl (s.cg (k:=0) rfl br aU) (zk 3 rfl (zo rfl (aC rfl rfl rfl (au ak (s.aq (k:=3) rfl hY))) (zc rfl (qg (i:=i) (f:=f) (z:=c'.length) hT (s.ae [1]) l1 (by omega) (by omega) (by omega)) ?_))))
   rintro r h ⟨rfl,s⟩
   have s:=s.ae [1,0]
   exact zk 3 rfl (zY s 0 dZ ah rfl (zk 3 rfl (WP.ret ⟨aa,_,rfl,.inl ⟨by omega,_,_,rfl,Fi,s.drop⟩⟩)))
  ·skip
   refine zC rfl wT (by simp;omega) ?_
   refine zk 6 rfl (zl rfl (s.cg (k:=0) rfl br aU) (zc rfl (Gp hT (s.ae [1]) (aK _ _) hp) ?_))
   rintro r h' ⟨rfl,s⟩
   have s:=s.ae [1,0]
   refine zm rfl (zo rfl (aC rfl rfl rfl (au ak (s.aq (k:=3) rfl hY))) (zm rfl (zb rfl (by exact ei (ay (by omega) (by omega))) ?_)))
   by_cases hf:26+4*cs.length+tot (cs.set i c')≤512
   ·have ug:=hp.none hc
    have h0:(cs.set i [])[i]?=some []:=iX hi
    have J:(cs.set i []).set i c'=cs.set i c':=by simp
    have I:(cs.set i ([]:List Nat)).length=cs.length:=bT
    refine zC rfl aL (by simp;omega) ?_
    refine zk 4 rfl ?_
    have z0:=s
    refine WP.drawn [some (0,2),some (0,2),af,af,af] rfl (by kernel_rfl) (by kernel_rfl) ?_
    refine zL rfl (s.cg (k:=0) rfl br aU) (zM rfl (zL rfl (s.cg (k:=0) rfl br aU) (aE.any rfl rfl rfl rfl (OpR.call rfl rfl rfl rfl (yW hT s (k:=1) rfl (aK _ _) hl)) ?_)))
    rintro r h' ⟨rfl,s⟩
    have z1:=s
    refine aE.any rfl rfl rfl rfl (OpR.call rfl rfl rfl rfl (qg (i:=i) (f:=dw b) (z:=0) hT (s.ae [1]) hl (by omega) (by omega) (by omega))) ?_
    rintro r h ⟨rfl,s⟩
    have s:=s.ae [1,0]
    refine aE.nil ⟨⟨ga (.inr ⟨rfl,⟨_,o_load rfl (z0.cg (k:=0) rfl br aU)⟩,bj _ rfl⟩) (.inr ⟨rfl,⟨_,o_load rfl (z1.cg (k:=0) rfl br aU)⟩,bj _ rfl⟩),fun _ _=>.inr ⟨rfl,⟨_,bV rfl⟩,bj _ rfl⟩,aa,aa,aa,aa⟩,?_⟩
    refine zK 3 rfl (zl rfl (s.cg (k:=0) rfl br aU) (zc rfl (I4 hT s (k:=1) rfl (aK _ _) ug) ?_))
    rintro r h' ⟨rfl,s⟩
    rw[I]
    refine zm rfl (zo rfl (aC rfl rfl rfl (au ak (s.aq (k:=3) rfl hY))) ?_)
    by_cases hr:26+4*cs.length+c'.length≤dw (ku b i (dw b) 0)
    ·skip
     refine zC rfl aL (by simp;omega) ?_
     refine zk 3 rfl ?_
     refine DI (i:=i) hT hY ug h0 (by rw[I];exact hr) (by rw[J,I];exact hf) (s.ae [0,0,1]) ⟨rfl,rfl,rfl,aa⟩ fun E' h' b' e6 e7 rJ s'=>⟨aa,_,xm e6 e7,.inl ⟨hf,_,b',rfl,by rw[←J];exact rJ,s'.ae [0,1,0]⟩⟩
    ·skip
     refine zB rfl aL (by simp;omega) ?_
     refine zk 3 rfl (zl rfl (s.cg (k:=0) rfl br aU) (zc rfl (LN hT (s.ae [1]) ug (by rw[I];omega)) ?_))
     rintro r h ⟨rfl,b2,BM,s⟩
     have h2:=BM.low
     have s:=s.ae [1,0]
     refine zv ?_
     refine DI (i:=i) hT hY BM.f h0 (by rw[I];omega) (by rw[J,I];exact hf) (s.ae [0,0,1]) ⟨rfl,rfl,rfl,aa⟩ fun E' h' b' e6 e7 rJ s'=>⟨aa,_,xm e6 e7,.inl ⟨hf,_,b',rfl,by rw[←J];exact rJ,s'.ae [0,1,0]⟩⟩
   ·skip
    refine zB rfl aL (by simp;omega) ?_
    exact zk 7 rfl (WP.ret ⟨aa,_,rfl,.inr ⟨by omega,rfl,s.del 1 |>.del 0⟩⟩)
 ·rw[hp.good] at hg;cases hg
end
abbrev dD (us:List V)(cs:List (List Nat)): aI:=each (fun v c=>.bK v c) us cs
section
variable {us:List V}
theorem aJ.rK (us:List V)(cs:List (List Nat)): aJ (dD us cs):=aJ.each (fun _ _=>aJ.bK _ _) _ _
theorem Wt (s:Sat h S): Sat h (dD [] []::S):=s.fq (φ:=True) aa
theorem Te (s:Sat h (l9 u c::dD us cs::S)): Sat h (dD (us++[u]) (cs++[c])::S) :=
 (s.ae [1]).two (aJ.rK _ _) (aJ.bK _ _) fun _ _ a b=>Il a ⟨b,aa⟩
theorem Qi (s:Sat h (dD us cs::S))(I:cs[i]?=some c): ∃u,us[i]?=some u∧Sat h (l9 u c::dD us cs::S):=Li (fun _ _=>aJ.bK _ _) s I
theorem pG (s:Sat h (dD us cs::S)): us.length=cs.length:=by
 obtain⟨_,_,_,_,I⟩:=s.at (k:=0) rfl
 exact B3 I
end
section
variable {told:cy} {v:V}
noncomputable def pcL : Code:=cE [1,1,1,1,0,1,0,0] ((Tryz.f160.body).getD .skip)
theorem I6 (hT:W told){p4:Nat}(hX:bX X (b5 x b))(FW:x.cells=[x])(hp:cm b kd link extra cs): ∀(m i:Nat) (w:V) (us:List V) (h:H) (E:List (Nat×V)) (Q:Ex→List (Nat×V)→H→Prop),i+m=cs.length→us.length=i →
  Sat h (pt p4 (.cells 1 [x] false)::X::.arr 1 w us::dD us (cs.take i)::S)→Has E [(4,.ptr p4 0),(6,w),(20,.int .i64 (cs.length:Int)),(21,.int .i64 (i:Int))] →
  (∀E' h' w' J,J.length=cs.length→Has E' [(6,w')]→Sat h' (pt p4 (.cells 1 [x] false)::X::.arr 1 w' J::dD J cs::S)→Q (.exit 0) E' h')→WP ⟨Tryz.prog,told⟩ 33 (.loop pcL) E h Q:=by
 have hl:=hp.len
 have dN:=hp.fits
 obtain⟨i1,eT,gC,om⟩:=tQ
 intro m
 induction m with
 |zero =>
  intro i w us h E Q hi qp s hE hq
  have hi:i=cs.length:=hi
  subst hi
  rw[ja] at s
  refine WP.loop (WP.has hE (zg rfl (zC rfl aL (by simp) ?_)))
  exact zk 3 rfl (WP.exit (hq _ _ _ us qp ⟨rfl,aa⟩ s))
 |succ m ih =>
  intro i w us h E Q hi qp s hE hq
  have I:cs[i]?=some (cs[i]'(by omega)):=aG _
  generalize (cs[i]'(by omega))=c at I
  obtain⟨t0,s1,s2,s3⟩:=hp.slot i c I
  have qi:cs.take (i+1)=cs.take i++[c]:=by rw[mI,I];rfl
  refine WP.loop (WP.has hE (zg rfl (zB rfl aL (by simp;omega) ?_)))
  refine zk 5 rfl (WP.block (zK 7 rfl (zl rfl (s.cg (k:=0) rfl br aU) (zm rfl (zc rfl (I3 (i:=i) (c:=c) hT s (k:=1) rfl hX hp I) ?_)))))
  rintro r h' ⟨f,rfl,hr,s⟩
  refine zc rfl (uG hT (s.ae [1]) hr (by omega)) ?_
  intro u0 h s
  have YY:=(s.buf (k:=0) rfl).view.cells
  have s:=s.fD
  have s:=s.ae [0,3]
  dsimp only[aT,bringA,getA] at s
  have s:=Te s
  rw[←qi] at s
  have s:=s.ae [3]
  dsimp only[bringA,getA,aT] at s
  obtain⟨iv,h1,zH,s1⟩:=jB (P:=Tryz.prog) (k:=1) (x:=u0) s bh k8 eZ rfl (by decide) (by decide) (by grind) (by grind)
  rw[YY.1] at s1
  refine aA.any rfl rfl rfl (OpR.of (R:=fun v h'=>v=iv∧h'=h1) (gI rfl zH) ⟨rfl,rfl⟩) ?_
  rintro v' h' ⟨rfl,rfl⟩
  obtain⟨av,h2,qb,s2⟩:=gK (s1.ae [1,0]) bh eT k8 gC (by omega) rfl (by decide) (by simp;omega)
  dsimp only[aT,bringA] at s2
  refine aA.any rfl rfl rfl (OpR.of (R:=fun v h'=>v=av∧h'=h2) (iG rfl rfl qb) ⟨rfl,rfl⟩) ?_
  rintro v' h ⟨rfl,rfl⟩
  have s:=(s2.del 1).ae [3,2,0,0]
  dsimp only[aT,bringA,getA] at s
  refine za rfl (zv (zr rfl (zb rfl (by exact aO (ay (by omega) (by omega))) ?_)))
  refine zm rfl (zv ?_)
  exact ih (i+1) _ _ _ _ Q (by omega) (by rw[aX,qp];rfl) s ⟨rfl,rfl,rfl,rfl,aa⟩ hq
theorem Nu (J:W told)(s:Sat h (X::S))(hX:bX X (b5 v b))(I:cm b kd link extra cs):
  Call ⟨Tryz.prog,told⟩ 160 [v] h fun r h'=>∃w us,r=.aW [w,.int .i64 0]∧Sat h' (.arr 1 w us::dD us cs::X::S):=by
 have hl:=I.len
 have hv:=s.aq (k:=0) rfl hX
 have dN:=I.fits
 obtain⟨pi,po,pc,rfl⟩:=gp hv (by omega)
 obtain⟨i1,eT,gC,om⟩:=tQ
 refine Call.of_wp (J.free _ rfl) ID rfl rfl (zK 8 rfl (zc rfl (rE J s hX (by omega)) ?_))
 rintro r h' ⟨s,(⟨hg,rfl⟩|⟨hg,rfl⟩)⟩
 ·refine aA.op rfl rfl rfl (bV rfl) ?_
  refine zk 2 rfl ?_
  refine aA.cB s rfl rfl rfl (cF iJ) (fun p4 h s => ?_)
  refine zS rfl (s.iK (j:=0) rfl aU rfl rfl) (fun h s => ?_)
  refine zk 6 rfl (zC rfl aN (rfl) (zk 5 rfl (zl rfl (s.cg (k:=0) rfl br aU) (zc rfl (fJ J s (k:=1) rfl hX hl) ?_))))
  rintro r h' ⟨rfl,s⟩
  rw[I.fg]
  obtain⟨wv,h1,e3,s1⟩:=yP (P:=Tryz.prog) s bh eT k8 gC (by omega) rfl (by decide) (by decide) (n:=0) (c:=cs.length) (by omega) (by omega)
  refine aA.any rfl rfl rfl (OpR.of (R:=fun v h'=>v=wv∧h'=h1) (wQ rfl rfl e3) ⟨rfl,rfl⟩) ?_
  rintro w0 h ⟨rfl,rfl⟩
  have s:Sat h (.arr 1 w0 []::_):=s1
  have s:=Wt s
  have s:=s.ae [2,2,1,0]
  refine zk 5 rfl (zl rfl (s.cg (k:=0) rfl br aU) (zc rfl (fJ J s (k:=1) rfl hX hl) ?_))
  rintro r h' ⟨rfl,s⟩
  rw[I.fg]
  refine zk 2 rfl (WP.block (I6 J hX rfl I cs.length 0 _ [] _ _ _ (by omega) rfl s ⟨rfl,rfl,rfl,rfl,aa⟩ fun E' h' w' us' qp fh s' => ?_))
  have s:=s'
  exact WP.has fh (zK 6 rfl (WP.ret ⟨aa,_,rfl,_,us',rfl,(s.ae [2,2,1]).del 3⟩))
 ·rw[I.good] at hg;cases hg
end
def cmpN : List Nat→List Nat→Int
 |[],[]=>0
 |[],_::_=>.negSucc 0
 |_::_,[]=>1
 |a::l,b::m=>cond (Nat.blt a b) (.negSucc 0) (cond (Nat.blt b a) 1 (cmpN l m))
noncomputable def byteList (h:H): V→Option (List Nat)
 |.aV=>some []
 |.sl id off len _=>match rdN h id off len with
  |some cs=>bytesOf cs
  |none=>none
 |_=>none
theorem US {b:Nat}(I:a<256)(J:b<256): (UInt8.ofNat a<UInt8.ofNat b)↔a<b:=by
 rw[UInt8.lt_iff_toNat_lt,UInt8.toNat_ofNat',UInt8.toNat_ofNat',Av I,Av J]
theorem Wu : ∀(l m:List Nat),(∀x∈l,x<256)→(∀x∈m,x<256)→Lib.compareBytes (l.map UInt8.ofNat) (m.map UInt8.ofNat)=cmpN l m:=by
 intro l
 induction l with
 |nil=>intro m _ _;cases m<;>rfl
 |cons a l ih =>
  intro m hl hm
  cases m with
  |nil=>rfl
  |cons b m =>
   have ha:=hl a bO
   have hb:=hm b bO
   simp only[jb,Lib.compareBytes,cmpN,US ha hb,US hb ha]
   by_cases I:a<b
   ·rw[aH I,eO.2 I];rfl
   ·have:Nat.blt a b=false:=by
     cases hq:Nat.blt a b with
     |true=>exact absurd (eO.1 hq) I
     |false=>rfl
    rw[ax I,this,aS]
    by_cases J:b<a
    ·rw[aH J,eO.2 J,ag]
    ·have:Nat.blt b a=false:=by
      cases hq:Nat.blt b a with
      |true=>exact absurd (eO.1 hq) J
      |false=>rfl
     rw[ax J,this,aS]
     exact ih m (fun x hx=>hl x (bR _ hx)) (fun x hx=>hm x (bR _ hx))
section
variable {c:Ctx} {σ:H} {w:World}
theorem Kr (h:Rel c σ w)(hw:wf c x)(I:byteList σ x=some l):
  (∀y∈l,y<256)∧(Extern.Bytes.bytesOf (conc c x)).run P w=.ok ⟨(l.map UInt8.ofNat).toArray⟩ w:=by
 unfold byteList at I
 split at I
 ·simp only[aD] at I
  subst I
  refine⟨fun y J=>(jw J).elim,?_⟩
  simp only[conc]
  rfl
 ·rename_i id off len cap
  cases hr:rdN σ id off len with
  |none=>simp[hr] at I
  |some cs =>
   simp only[hr] at I
   obtain⟨ns,h1,h2⟩:=Cz (c:=c) cs l I
   obtain⟨a,n,e1,e2,e3,e4⟩:=vO (P:=P) h hw hr (fun h=>h)
   refine⟨fun y J => ?_,?_⟩
   ·rw[h2] at J
    obtain⟨z,_,rfl⟩:=List.mem_map.1 J
    exact AH _ (by decide)
   ·rw[e1]
    have hlen:ns.length=len:=by
     have:=dn List.length h1
     simp only[cq] at this
     rw[←this]
     exact(qZ h hr).1
    have hq:=Lib.run_loadBytesX (P:=P) w ns a .empty (fun j y hj=>e4 j _ (by rw[h1,jv,hj];rfl))
    rw[hlen] at hq
    show(Extern.Bytes.loadBytes a len .empty).run P w=_
    rw[hq]
    congr 1
    apply Ay
    show(#[]:Array UInt8)++(Lib.bytesOf ns).toArray=_
    rw[h2]
    simp only[Array.empty_append,Lib.bytesOf,List.map_map]
    congr 1
    refine vq fun y _ => ?_
    simp only[Function.comp_apply,ofNat_mod]
 ·cases I
end
theorem Wv {x y:Value}{a:List Nat}{w:World}(I:∀z∈a,z<256)(J:∀z∈b,z<256)
 (hx:(Extern.Bytes.bytesOf x).run P w=.ok ⟨(a.map UInt8.ofNat).toArray⟩ w)(hy:(Extern.Bytes.bytesOf y).run P w=.ok ⟨(b.map UInt8.ofNat).toArray⟩ w):
  (Extern.BytealgCompare.compare #[x,y]).run P w=.ok (.int .i64 (cmpN a b)) w:=by
 change Sem.run P (do pure (goInt (Extern.BytealgCompare.cmp (← Extern.Bytes.bytesOf x) (← Extern.Bytes.bytesOf y)))) w=_
 simp only[Sem.run_bind,Sem.run_pure,hx,hy,Result.andThen]
 rw[Lib.cmp_eq,Wu a b I J]
 rfl
theorem Tf {b:Nat}{m:List Nat}: cmpN (a::l) (b::m)=if a<b then -1 else if b<a then 1 else cmpN l m:=by
 show cond (Nat.blt a b) (.negSucc 0) (cond (Nat.blt b a) 1 (cmpN l m))=_
 by_cases I:a<b
 ·rw[eO.2 I,ag,aH I];rfl
 ·have e1:Nat.blt a b=false:=by
   cases hq:Nat.blt a b with
   |true=>exact absurd (eO.1 hq) I
   |false=>rfl
  rw[e1,aS,ax I]
  by_cases J:b<a
  ·rw[eO.2 J,ag,aH J]
  ·have e2:Nat.blt b a=false:=by
    cases hq:Nat.blt b a with
    |true=>exact absurd (eO.1 hq) J
    |false=>rfl
   rw[e2,aS,ax J]
theorem qK : ∀(a b:Ky),(cmpN a b<0↔a<b)∧(cmpN a b≤0↔a≤b):=by
 intro a
 induction a with
 |nil =>
  intro b
  cases b with
  |nil=>exact⟨⟨fun h=>absurd h (by decide),fun h=>absurd h (kH _)⟩,⟨fun _=>oR _,fun _=>by decide⟩⟩
  |cons y b=>exact⟨⟨fun _=>sH _ _,fun _=>(show Int.negSucc 0<0 by decide)⟩,⟨fun _=>oO (sH _ _),fun _=>(show Int.negSucc 0≤0 by decide)⟩⟩
 |cons x a ih =>
  intro b
  cases b with
  |nil =>
   have I:cmpN (x::a) []=1:=rfl
   have J:([]:Ky)<x::a:=sH _ _
   rw[I]
   exact⟨⟨fun h=>absurd h (by decide),fun h=>by grind⟩,⟨fun h=>absurd h (by decide),fun h=>by grind⟩⟩
  |cons y b =>
   obtain⟨i1,i2⟩:=ih b
   rw[Tf]
   by_cases I:x<y
   ·rw[aH I]
    have:x::a<y::b:=List.cons_lt_cons_iff.2 (.inl I)
    exact⟨⟨fun _=>this,fun _=>by decide⟩,⟨fun _=>oO this,fun _=>by decide⟩⟩
   ·rw[ax I]
    by_cases J:y<x
    ·rw[aH J]
     have:y::b<x::a:=List.cons_lt_cons_iff.2 (.inl J)
     exact⟨⟨fun h=>absurd h (by decide),fun h=>by grind⟩,⟨fun h=>absurd h (by decide),fun h=>by grind⟩⟩
    ·rw[ax J]
     have e:x=y:=by omega
     subst e
     have h3:x::a<x::b↔a<b:=by
      rw[Eg]
      exact⟨fun h=>h.resolve_left (fun q=>absurd q (Az _)) |>.2,fun h=>.inr ⟨rfl,h⟩⟩
     have h4:x::a≤x::b↔a≤b:=by
      rw[←List.not_lt,←List.not_lt]
      have:x::b<x::a↔b<a:=by
       rw[Eg]
       exact⟨fun h=>h.resolve_left (fun q=>absurd q (Az _)) |>.2,fun h=>.inr ⟨rfl,h⟩⟩
      rw[this]
     exact⟨i1.trans h3.symm,i2.trans h4.symm⟩
structure Way (ks:List gR)(k:Ky)(i:Nat): Prop where
 lt:i<ks.length
 le:∀j x,ks[j]?=some x→1≤j→j≤i→x.key≤k
 gt:∀j x,ks[j]?=some x→i<j→k<x.key
theorem Way.bd {k:Ky}(h:Way ks k i)(hb:Bd lo hi k): Bd (loK lo ks i) (fV hi ks i) k:=by
 refine⟨?_,fun b I => ?_⟩
 ·unfold loK
  split
  ·exact hb.1
  ·have J:ks[i]?=some (ks[i]'h.lt):=aG h.lt
   rw[J]
   exact h.le i _ J (by omega) (aM _)
 ·unfold fV at I
  cases J:ks[i+1]? with
  |none=>rw[J] at I;exact hb.2 b I
  |some x =>
   rw[J] at I
   obtain rfl:=bp I
   exact h.gt (i+1) x J (by omega)
abbrev BQ (n l:Nat)(bv cv:V): List V:=[.int .i64 (n:Int),.int .i64 (l:Int),bv,cv]
def cH (x n l:Nat)(b:List Nat)(cs:List (List Nat)): aI:=xs fun bv:V=>xs fun cv:V=>xs fun us:List V=>star [pt x (.cells 4 (BQ n l bv cv) false),.bK bv b,roH 1 cv us,dD us cs]
def jl (l:Nat)(c:List Nat): Prop:=if l=0 then 1≤c.length∧1+c.getD 0 0≤c.length else 4≤c.length
section
variable {x n l:Nat} {P:Int→List Nat}
theorem bQ : Sat h (cH x n l b cs::S)↔∃bv cv us,Sat h (pt x (.cells 4 (BQ n l bv cv) false)::.bK bv b::roH 1 cv us::dD us cs::S):=by
 simp[cH,iC,cG]
theorem Nv.cells (hN:Nv F P l lo hi cs es ps): ∀c∈cs,jl l c∧c.length≤225∧(1≤l→c.length≤100):=by
 intro c hc
 cases l with
 |zero =>
  obtain⟨rfl,J,rfl⟩:=hN
  obtain⟨e,he,rfl⟩:=List.mem_map.1 hc
  obtain⟨s1,s2,s3⟩:=J.sz e he
  refine⟨?_,?_,fun h=>by omega⟩
  ·show 1≤(dU e).length∧1+(dU e).getD 0 0≤(dU e).length
   exact⟨by simp[dU],by simp[dU];omega⟩
  ·simp[dU];omega
 |succ l =>
  obtain⟨ks,rfl,J,rfl,rfl,h5⟩:=hN
  obtain⟨i,hi⟩:=List.mem_iff_getElem?.1 hc
  have I:=(List.getElem?_eq_some_iff.1 hi).1
  rw[iy] at I
  have hk:ks[i]?=some (ks[i]'I):=aG I
  rw[j_ hk] at hi
  obtain rfl:=bp hi
  have h4:=dH 4 (ks[i]'I).pg
  have wk:(if i=0 then[] else(ks[i]'I).key).length≤96:=by
   split
   ·exact eN _
   ·exact(J.sz i _ hk (by omega)).2
  have hl:(ie (ks[i]'I).pg (if i=0 then[] else(ks[i]'I).key)).length=4+(if i=0 then[] else(ks[i]'I).key).length:=by rw[ie,aX,h4]
  exact⟨by rw[jl,ax (by omega),hl];omega,by rw[hl];omega,fun _=>by rw[hl];omega⟩
end
def Fj (cap:Cap)(k off n N:Nat): Prop:=match cap with
 |.exact c=>n≤c
 |.rest e _=>e=k∧off+n*k=N
def uI (m:PM)(k:Nat)(v:V)(cs:List V): Prop:=cs.all storable=true∧((v=.aV∧cs=[]) ∨
 ∃id off n cap N row,v=.sl id off n cap∧m id=some (.cells N row false)∧row.length=N∧off+n*k≤N∧(row.drop off).take (n*k)=cs∧Fj cap k off n N)
theorem uI.up {m m':PM}{v:V}{cs:List V}(h:uI m k v cs)(hm:PM.le m m'): uI m' k v cs:=by
 obtain⟨J,I⟩:=h
 refine⟨J,?_⟩
 rcases I with I|⟨id,off,n,cap,N,row,e,hg,h3⟩
 ·exact .inl I
 ·exact .inr ⟨id,off,n,cap,N,row,e,hm _ _ hg,h3⟩
theorem nQ.sl {m:PM}{v:V}{cs:List V}(h:nQ m k v cs): uI m k v cs:=by
 obtain⟨h1,I⟩:=h
 refine⟨h1,?_⟩
 rcases I with I|⟨id,n,cap,N,rest,e,hg,h3,h4,h5,J⟩
 ·exact .inl I
 ·refine .inr ⟨id,0,n,cap,N,cs++rest,e,hg,by rw[aX];exact h4,by omega,by rw[eC,←h3,gj rfl],?_⟩
  cases cap with
  |exact c=>exact J.2
  |rest a b=>exact⟨J.1,by rw[J.2.2.1,bI] at h4;omega⟩
def tX (X:aI)(k:Nat)(v:V)(cs:List V): Prop:=∀m r,X.p m r→uI m k v cs∨uI r k v cs
theorem Lb.s {v:V}{cs:List V}(h:Lb X k v cs): tX X k v cs:=fun m r hm=>(h m r hm).imp nQ.sl nQ.sl
def roS (k:Nat)(v:V)(cs:List V): aI:=.xs fun o:Option (Nat×Nat×Nat×Cap×Nat×List V)=>match o with
 |none=>.pu (cs.all storable=true∧v=.aV∧cs=[])
 |some (id,off,n,cap,N,row)=>.an (.ro id (.cells N row false)) (.pu (cs.all storable=true∧v=.sl id off n cap∧row.length=N∧off+n*k≤N∧(row.drop off).take (n*k)=cs∧Fj cap k off n N))
theorem ig (k:Nat)(v:V)(cs:List V): tX (roS k v cs) k v cs:=fun m r h=>by
 obtain⟨_|⟨id,off,n,cap,N,row⟩,h⟩:=h
 ·exact .inr ⟨h.1,.inl h.2⟩
 ·exact .inr ⟨h.2.1,.inr ⟨id,off,n,cap,N,row,h.2.2.1,h.1,h.2.2.2⟩⟩
theorem Nw {v:V}{cs:List V}: bX (roH k v cs) (roS k v cs):=fun m r h=>by
 obtain⟨_|⟨id,n,cap,N,rest⟩,h⟩:=h
 ·exact⟨none,h⟩
 ·obtain⟨h1,h2,h3,h4,J,h6,I⟩:=h
  refine⟨some (id,0,n,cap,N,cs++rest),h1,h2,h3,by rw[aX];exact J,by omega,by rw[eC,←h4,gj rfl],?_⟩
  cases cap with
  |exact c=>exact I.2
  |rest a b=>exact⟨I.1,by rw[I.2.2.1,bI] at J;omega⟩
section
variable {v:V} {cs:List V} {e:TypeId}
theorem Sat.nr (s:Sat h S)(I:getA S j=some X)(J:tX X k v cs): uI (T.get h.tr) k v cs:=by
 obtain⟨m,r,h1,h2,h3⟩:=s.at I
 rcases J _ _ h3 with q|q
 ·exact q.up h1
 ·exact q.up h2
theorem Cf (a:uI (T.get h.tr) k v cs): v.cells=[v]∧storable v=true∧v.beq v=true:=by
 rcases a.2 with⟨rfl,_⟩|⟨id,off,n,cap,N,row,rfl,_⟩
 ·exact⟨rfl,rfl,rfl⟩
 ·exact⟨rfl,rfl,wS _ _ _ _⟩
theorem zX {n:Nat}(a:uI (T.get h.tr) k v cs)(hn:cs.length=n*k)(J:1≤k)(hu:P.underlying t=some (.slice e)): lenV P h t v=some (.int .i64 n):=by
 rcases a.2 with⟨rfl,rfl⟩|⟨id,off,n',cap,N,row,rfl,hg,h1,h2,h3,_⟩
 ·have:n=0:=by
   rcases lJ n with I|I
   ·exact I
   ·have:=oN I J
    simp at hn
    omega
  simp_all[lenV]
 ·have hl:cs.length=n'*k:=by rw[←h3,cj,gi];omega
  have:n'=n:=D_ J (by omega)
  subst this
  simp only[lenV,hu]
theorem Y_ (a:uI (T.get h.tr) k v cs)(hi:i*k+k≤cs.length)(hk:1≤k)(hu:P.underlying t=some (.slice e))(I:bg P e=some k):
  ∃id off,indexAddrV P t v (.int .i64 (i:Int))=some (.ptr id off)∧∀m c t',((cs.drop (i*k)).take k)[m]?=some c→isAggT P t'=some false→loadV P h t' (.ptr id (off+m))=some c:=by
 rcases a.2 with⟨_,rfl⟩|⟨id,off,n,cap,N,row,rfl,hg,h1,h2,h3,_⟩
 ·simp at hi;omega
 ·have hl:cs.length=n*k:=by rw[←h3,cj,gi];omega
  have zP:i<n:=by
   refine Nat.lt_of_not_le fun q => ?_
   have:=mG k q
   omega
  refine⟨id,off+i*k,?_,fun m c t' J ht=>yF ht hg ?_⟩
  ·simp only[indexAddrV,hu,I,dm]
   grind
  ·have hm:=(List.getElem?_eq_some_iff.1 J).1
   rw[cj] at hm
   rw[gh,aH (by omega),eA,←h3,gh,aH (by omega),eA] at J
   rw[eX,←J]
   congr 1
   omega
theorem Qj (a:uI (T.get h.tr) k v cs): ∃n,cs.length=n*k∧srcV h k v=some (cs,n):=by
 rcases a.2 with⟨rfl,rfl⟩|⟨id,off,n,cap,N,row,rfl,hg,h1,h2,I,_⟩
 ·exact⟨0,by simp,rfl⟩
 ·have hl:cs.length=n*k:=by rw[←I,cj,gi];omega
  refine⟨n,hl,?_⟩
  have hr:rdN h id off (n*k)=some cs:=by
   simp only[rdN,hg]
   rw[aP.2 h2,ag]
   cases J:(Nat.beq off 0&&Nat.beq (n*k) N) with
   |true =>
    simp only[bF,beq_iff] at J
    rw[ag,←I,J.1,eC,J.2,←h1,ja]
   |false=>rw[aS,I]
  simp only[srcV,hr,fQ]
theorem I7 (s:Sat h (roS k v cs::S)): (v=.aV∧cs=[])∨∃id off n cap N row,v=.sl id off n cap∧row.length=N∧off+n*k≤N∧(row.drop off).take (n*k)=cs∧Fj cap k off n N∧cs.all storable=true∧Sat h (ro id (.cells N row false)::S):=by
 obtain⟨_|⟨id,off,n,cap,N,row⟩,s⟩:=iC.1 s
 ·exact .inl (pT.1 s).1.2
 ·have s:Sat h (aI.an (.ro id (.cells N row false)) (.pu (cs.all storable=true∧v=.sl id off n cap∧row.length=N∧off+n*k≤N∧(row.drop off).take (n*k)=cs∧Fj cap k off n N))::S):=s
  obtain⟨_,_,_,_,I⟩:=s.at (k:=0) rfl
  obtain⟨_,q1,J,q3,q4,q5,q6⟩:=I
  exact .inr ⟨id,off,n,cap,N,row,J,q3,q4,q5,q6,q1,s.dG fun _ _ h=>h.1⟩
theorem uJ {n:Nat}{row:List V}(I:row.length=N)(J:off+n*k≤N)(q5:(row.drop off).take (n*k)=cs)(q6:Fj cap k off n N)(q1:cs.all storable=true)(s:Sat h (ro id (.cells N row false)::S)): Sat h (roS k (.sl id off n cap) cs::S) :=
 s.dG fun _ _ h=>⟨some (id,off,n,cap,N,row),h,q1,rfl,I,J,q5,q6⟩
theorem UT {b:Nat}(s:Sat h (roS 1 v cs::S))(hb:b≤cs.length)(h1:1≤b)(hu:P.underlying t=some (.slice e))(J:bg P e=some 1): ∃v',sliceV P h t v none (some b) (some b)=some v'∧Sat h (roS 1 v' (cs.take b)::roS 1 v cs::S):=by
 rcases I7 s with⟨rfl,rfl⟩|⟨id,off,n,cap,N,row,rfl,q3,q4,q5,I,q1,s⟩
 ·simp at hb;omega
 ·have hl:cs.length=n:=by rw[←q5,cj,gi];omega
  have s:=(uJ (cs:=cs) q3 q4 q5 I q1 (s.dup (aJ.ro _ _))).ae [1]
  have s:Sat h (roS 1 (.sl id off b (.exact b)) (cs.take b)::_):=uJ q3 (by omega) (by rw[←q5,qx];congr 1;omega) (aM _) (by
   rw[mJ] at q1 ⊢
   exact fun x hx=>q1 x (iA hx)) s
  refine⟨.sl id off b (.exact b),?_,s⟩
  cases cap with
  |exact c =>
   have I:n≤c:=I
   simp only[sliceV,hu,J,eo]
   rw[show(Nat.ble 0 b&&Nat.ble b b&&Nat.ble b c)=true by simp;omega,ag,eD (by omega),aS,jY,dA,fR]
  |rest a alt =>
   have I:a=1∧_:=I
   simp only[sliceV,hu,J,eo]
   rw[show(Nat.beq a 1&&Nat.ble 1 1)=true by simp[I.1],ag,show(Nat.ble 0 b&&Nat.ble b b&&(Nat.ble b n||Nat.ble b (fC h id off 1))&&Nat.blt 0 n)=true by simp;omega,ag,eD (by omega),aS,jY,dA,fR]
theorem aaZ (s:Sat h (roS 1 v cs::S))(ha:a<cs.length)(hu:P.underlying t=some (.slice e))(zZ:bg P e=some 1): ∃v',sliceV P h t v (some a) none none=some v'∧Sat h (roS 1 v' (cs.drop a)::roS 1 v cs::S):=by
 rcases I7 s with⟨rfl,rfl⟩|⟨id,off,n,cap,N,row,rfl,q3,q4,q5,J,q1,s⟩
 ·simp at ha
 ·have hl:cs.length=n:=by rw[←q5,cj,gi];omega
  have s:=(uJ (cs:=cs) q3 q4 q5 J q1 (s.dup (aJ.ro _ _))).ae [1]
  have key:∀I,Fj I 1 (off+a*1) (n-a) N→Sat h (roS 1 (.sl id (off+a*1) (n-a) I) (cs.drop a)::roS 1 (.sl id off n cap) cs::S):=fun I hc =>
   uJ (cs:=cs.drop a) q3 (by omega) (by rw[←q5,kF,sK,cz,cz,cz]) hc (by
    rw[mJ] at q1 ⊢
    exact fun x hx=>q1 x (gF hx)) s
  cases cap with
  |exact c =>
   have J:n≤c:=J
   refine⟨_,?_,key (.exact (c-a)) (by show n-a≤c-a;omega)⟩
   simp only[sliceV,hu,zZ,eo,cS]
   rw[show(Nat.ble a n&&Nat.ble n c)=true by simp;omega,ag,eD (by omega),aS]
  |rest z alt =>
   have J:z=1∧off+n*1=N:=J
   refine⟨_,?_,key (.rest 1 (cond (Nat.beq a 0) alt (cond (Nat.blt a n) (off+a*1) off))) ⟨rfl,by omega⟩⟩
   simp only[sliceV,hu,zZ,eo,cS]
   rw[show(Nat.beq z 1&&Nat.ble 1 1)=true by simp[J.1],ag,show(Nat.ble a n&&(Nat.ble n n||Nat.ble n (fC h id off 1)))=true by simp;omega,ag]
end
end Go.Proofs.YtdonpgpfplgigaaGreat.Am
