/- AtomTorn: a part of its proof; conditions: its statement's. -/
import Derived.Test.YtconhghphklfjaaGreatT36
namespace Go.Proofs.YtconhghphklfjaaGreat.Am
open Go
structure gw where
 aq:IA
 oF:List (Int×Nat)
def chgF (n:Nat)(c:cn)(ρ:gw): gw :=
 if c.whole=true then { aq:=cN c.aM c.b ρ.aq,oF:=cN c.aM n ρ.oF } else
 match lookL c.aM ρ.aq with
 | none=>ρ
 | some b=>{ aq:=cN c.aM (dg b c.pos.toNat c.b) ρ.aq,oF:=cN c.aM n ρ.oF }
abbrev Ch (v:V)(n:Nat): ax:=.pu (v=.int .u64 (n:Int))
def xY (x:Nat)(ρ:gw): ax:=xs fun i:Nat=>xs fun l:bX=>xs fun k:Nat=>xs fun j:Nat=>xs fun m:bX=>xs fun g:Nat =>
 star [.pu (fc k 0 l∧(ρ.aq.map (·.1)).Nodup∧fc g 0 m∧(ρ.oF.map (·.1)).Nodup),pt x (.cells 2 [.map i,.map j] false),fG i l k,bufsA l ρ.aq,fG j m g,eD Ch m ρ.oF]
theorem BM (l:List Nat): dg l 0 l=l:=by simp [dg]
section
variable {told:dM} {h:H} {S:List ax} {X:ax} {u v:V} {b:List Nat} {x n:Nat} {c:cn} {ρ:gw}
theorem u5 : Sat h (xY x ρ::S)↔∃i l k j m g,(fc k 0 l∧(ρ.aq.map (·.1)).Nodup∧fc g 0 m∧(ρ.oF.map (·.1)).Nodup) ∧
  Sat h (pt x (.cells 2 [.map i,.map j] false)::fG i l k::bufsA l ρ.aq::fG j m g::eD Ch m ρ.oF::S):=by
 simp only [xY,gu,en,fF,cW,eR]
noncomputable def chR : Code:=cM [1,1,1] ((Tryz.f107.body).getD .skip)
theorem xZ (hT:W told){i k j g J:Nat}{l m:bX}(hb:b.length=512)(hc:c.Ok)(U:fc k 0 l)(h2:(ρ.aq.map (·.1)).Nodup)(h3:fc g 0 m)(h4:(ρ.oF.map (·.1)).Nodup)
 (s:Sat h (bK v b::.ct u c.b::pt x (.cells 2 [.map i,.map j] false)::fG i l k::qP c.aM l ρ.aq::fG j m g::eD Ch m ρ.oF::pt J (.cells 4 [.int .i64 c.aM,.int .i64 c.pos,.bool c.whole,u] false)::S))
 {E:List (Nat×V)}{Q:Ex→List (Nat×V)→H→Prop}(hE:Has E [(0,.ptr x 0),(1,.int .u64 (n:Int)),(5,.ptr J 0),(6,v)])
 (hq:∀E' h',Sat h' (xY x { aq:=cN c.aM (dg b c.pos.toNat c.b) ρ.aq,oF:=cN c.aM n ρ.oF }::.ct u c.b::S)→Q .normal E' h'): WP ⟨Tryz.prog,told⟩ 52 chR E h Q:=by
 obtain ⟨c1,c2,c3,c4,c5,c6⟩:=hc
 obtain ⟨a,ha⟩:∃a:Nat,c.pos=a:=⟨c.pos.toNat,by omega⟩
 refine WP.has hE (zw ?_)
 have s0:=s
 have I:=dc (s.buf (k:=0) rfl).view
 have Fx:=dc (s.aL (k:=1) rfl (cJ _ _))
 rw [ha] at s
 have sl:=(eC (s.buf (k:=0) rfl).view (a:=a) (by omega)).1
 refine WP.drawn [ai,ai,ai,ai,ai,ai,ai] rfl (by kernel_rfl) (by kernel_rfl) ?_
 refine zM rfl (zF rfl (su _ _) (zL rfl (s.ld (k:=7) rfl dA rfl) (zO rfl (cF (p:=some (.int .i64 (a:Int))) (q:=none) (m:=none) (p':=some a) (q':=none) (m':=none) rfl rfl rfl rfl (by simp [g8,bndV]) rfl rfl sl) ?_)))
 refine zF rfl (oM _ _) (zL rfl (s.ld (k:=7) rfl bO rfl) (aA.any rfl rfl rfl rfl (OpR.Pg rfl s (cJ _ _) (by omega) (by omega) rfl rfl rfl rfl rfl) ?_))
 intro r h s
 refine aA.nil ⟨⟨aa,aa,aa,aa,aa,aa,aa,aa⟩,?_⟩
 have s0:=s
 refine WP.drawn [ai,ai,ai,ai,ai,ai,ai,ai,ai,ai,some (0,3),some (0,3),some (0,2),some (0,4),ai,ai,ai,ai,ai,ai] rfl (by kernel_rfl) (by kernel_rfl) ?_
 refine zM rfl (zN rfl (zF rfl (pZ _ _) (zL rfl (s.ld (k:=2) rfl mB rfl) (zF rfl (qz _ _) (zL rfl (s.ld (k:=7) rfl dA rfl) (zM rfl (zN rfl (zF rfl (Kn _ _) (zL rfl (s.ld (k:=2) rfl SB rfl) (zF rfl (qz _ _) (zL rfl (s.ld (k:=7) rfl dA rfl) (zM rfl (zM rfl ?_)))))))))))))
 obtain ⟨w1,hh1,e1,s1⟩:=s.entry (j:=3) (n:=c.aM) rfl lN bG zC
 refine aA.any rfl rfl rfl rfl (OpR.mapEntry rfl rfl rfl e1) ?_
 rintro r1 oR ⟨rfl,rfl⟩
 refine zO rfl (cA rfl rfl) (aA.h_ rfl rfl rfl (OpR.entryStore rfl rfl rfl rfl (s1.entryStore (j:=3) (v:=v) rfl U)) ?_)
 intro r2 SV s2
 obtain ⟨w3,hh3,e3,s3⟩:=s2.entry (j:=5) (n:=c.aM) rfl Tryz.underlying179 bG Wc
 refine aA.any rfl rfl rfl rfl (OpR.mapEntry rfl rfl rfl e3) ?_
 rintro r3 hr3 ⟨rfl,rfl⟩
 refine zO rfl (cA rfl rfl) (aA.h_ rfl rfl rfl (OpR.entryStore rfl rfl rfl rfl (s3.entryStore (j:=5) (v:=.int .u64 (n:Int)) rfl h3)) ?_)
 intro r4 hh4 s
 refine aA.nil ⟨⟨aa,aa,aa,aa,aa,aa,aa,aa,aa,aa,fun _ _=>.inr ⟨rfl,⟨_,jI rfl (qz _ _)⟩,aX _ rfl⟩,wE (.inr ⟨rfl,⟨_,aW rfl (s0.ld (k:=7) rfl dA rfl)⟩,aX _ rfl⟩) (.inr ⟨rfl,⟨_,aW rfl (s1.ld (k:=7) rfl dA rfl)⟩,aX _ rfl⟩) (.inr ⟨rfl,⟨_,aW rfl (s2.ld (k:=7) rfl dA rfl)⟩,aX _ rfl⟩),fun _ _=>.inr ⟨rfl,⟨_,bn rfl⟩,I⟩,fun _ _=>.inr ⟨rfl,⟨_,bn rfl⟩,aX _ rfl⟩,aa,aa,aa,aa,aa,aa,aa⟩,?_⟩
 have s:=RB (c:=k) (s.ae [0,3])
 have s:=(s.ae [5]).fY (B:=eD Ch (jN c.aM (.int .u64 (n:Int)) g m) (cN c.aM n ρ.oF)) fun a b h=>Fs (f:=Ch) (x:=n) (show V.int .u64 (n:Int)=_ from rfl) h
 refine hq _ _ ?_
 have e:c.pos.toNat=a:=by omega
 rw [e]
 have s:=s.del 6
 exact (u5.2 ⟨i,_,_,j,_,_,⟨zP rfl (eM _) U,iQ h2,zP rfl (eM _) h3,iQ h4⟩,s.ae [3,3,1,2,0]⟩)
theorem Pp (U:W told)(hρ:∀e∈ρ.aq,e.2.length=512)(hc:c.Ok)(s:Sat h (xY x ρ::.ct u c.b::S)):
  Call ⟨Tryz.prog,told⟩ 107 [.ptr x 0,.int .u64 (n:Int),.agg [.int .i64 c.aM,.int .i64 c.pos,.bool c.whole,u]] h fun v h'=>v=.bE []∧Sat h' (xY x (chgF n c ρ)::.ct u c.b::S):=by
 obtain ⟨i,l,k,j,m,g,⟨h1,h2,h3,h4⟩,s⟩:=u5.1 s
 have hu:=(s.aL (k:=5) rfl (cJ _ _)).cells
 have Fx:=dc (s.aL (k:=5) rfl (cJ _ _))
 refine Call.of_wp (U.free _ rfl) Tryz.func107 rfl rfl (zg rfl (aB.cT s rfl rfl rfl (gL rfl (by simp only [V.cells,jl,jY,hu.2]; rfl)) ?_))
 intro p5 h s
 dsimp only [V.cells] at s
 dsimp only [List.length_cons,List.length_nil,Nat.reduceAdd] at s
 refine zk 2 rfl ?_
 have e2:=s.SI (n:=c.aM) (j:=2) rfl lN bG zC
 have I:c.whole=true→c.pos=0∧c.b.length=512:=hc.2.2.2.2.2
 have kg:c.b.length≤512:=by have:=hc.2.2.1; have:=hc.2.2.2.2.1; omega
 have s0:=s
 rcases hle:lookE c.aM l with _ | u0
 ·skip
  rw [hle] at e2
  obtain ⟨J,s⟩:=Pn hle (s.ae [3])
  have hX:=s
  have s:=s0
  refine WP.drawn [ai,ai,ai,ai,ai,ai,ai,ai,ai,ai,ai,ai] rfl (by kernel_rfl) (by kernel_rfl) ?_
  refine zM rfl (zN rfl (zF rfl (pZ _ _) (zL rfl (s.ld (k:=1) rfl mB rfl) (zF rfl (qz _ _) (zL rfl (s.ld (k:=0) rfl dA rfl) (zO rfl (gT rfl rfl e2) (zM rfl (zO rfl (cA rfl rfl) (zO rfl (cA rfl rfl) (zA rfl (zA rfl ?_)))))))))))
  refine aA.nil ⟨⟨aa,aa,aa,aa,aa,aa,aa,aa,aa,aa,aa,aa,aa⟩,?_⟩
  refine zw (WP.block (zg rfl (zf rfl (zE _ _) ?_)))
  by_cases hw:c.whole=true
  ·skip
   refine zt rfl (aW rfl (s.ld (k:=0) rfl ke rfl)) (hw) (zk 4 rfl (zf rfl (oM _ _) (zl rfl (s.ld (k:=0) rfl bO rfl) (zc rfl (kr U (hX.ae [6]) (cJ _ _) (by omega)) ?_))))
   intro v h s
   dsimp only [aU,bringA] at s
   refine za rfl (zv ?_)
   refine xZ (n:=n) U (I hw).2 hc h1 h2 h3 h4 (s.ae [0,0,2,2,0,1,1,0]) ⟨rfl,rfl,rfl,rfl,aa⟩ (fun E' h' s' => ?_)
   have e:dg c.b c.pos.toNat c.b=c.b:=by rw [(I hw).1]; exact BM _
   rw [e] at s'
   refine ⟨aa,_,rfl,rfl,?_⟩
   rw [chgF,aj hw]
   exact s'
  ·skip
   refine zh rfl (aW rfl (s.ld (k:=0) rfl ke rfl)) (by simpa using hw) ?_
   refine zk 6 rfl (zo rfl (dS rfl rfl) (zk 3 rfl (WP.ret ⟨aa,_,rfl,?_⟩)))
   have e:chgF n c ρ=ρ:=by rw [chgF,af hw,J]
   rw [e]
   exact ⟨rfl,(u5.2 ⟨i,l,k,j,m,g,⟨h1,h2,h3,h4⟩,s.drop⟩)⟩
 ·skip
  rw [hle] at e2
  obtain ⟨y,J,s⟩:=Po hle (s.ae [3])
  have hX:=s
  have s:=s0
  have acH:=dc (hX.buf (k:=0) rfl).view
  have hy:y.length=512:=hρ _ (fC J)
  refine WP.drawn [ai,ai,ai,ai,ai,ai,ai,ai,ai,ai,ai,ai] rfl (by kernel_rfl) (by kernel_rfl) ?_
  refine zM rfl (zN rfl (zF rfl (pZ _ _) (zL rfl (s.ld (k:=1) rfl mB rfl) (zF rfl (qz _ _) (zL rfl (s.ld (k:=0) rfl dA rfl) (zO rfl (gT rfl rfl e2) (zM rfl (zO rfl (cA rfl rfl) (zO rfl (cA rfl rfl) (zA rfl (zA rfl ?_)))))))))))
  refine aA.nil ⟨⟨aa,aa,aa,aa,aa,aa,aa,aa,aa,aa,aa,aa,aa⟩,?_⟩
  refine zw (WP.block (zg rfl (zf rfl (zE _ _) ?_)))
  by_cases hw:c.whole=true
  ·skip
   refine zt rfl (aW rfl (s.ld (k:=0) rfl ke rfl)) (hw) (zk 4 rfl (zf rfl (oM _ _) (zl rfl (s.ld (k:=0) rfl bO rfl) (zc rfl (kr U ((hX.drop).ae [6]) (cJ _ _) (by omega)) ?_))))
   intro v h s
   dsimp only [aU,bringA] at s
   refine za rfl (zv ?_)
   refine xZ (n:=n) U (I hw).2 hc h1 h2 h3 h4 (s.ae [0,0,2,2,0,1,1,0]) ⟨rfl,rfl,rfl,rfl,aa⟩ (fun E' h' s' => ?_)
   have e:dg c.b c.pos.toNat c.b=c.b:=by rw [(I hw).1]; exact BM _
   rw [e] at s'
   refine ⟨aa,_,rfl,rfl,?_⟩
   rw [chgF,aj hw]
   exact s'
  ·skip
   refine zh rfl (aW rfl (s.ld (k:=0) rfl ke rfl)) (by simpa using hw) ?_
   refine za rfl (zv (zj rfl (zg rfl (zm rfl (zo rfl (dS rfl rfl) (za rfl (zv (zj rfl (WP.skip ?_)))))))))
   refine xZ (n:=n) U hy hc h1 h2 h3 h4 (hX.ae [0,6,2,2,0,1,1,0]) ⟨rfl,rfl,rfl,rfl,aa⟩ (fun E' h' s' => ?_)
   refine ⟨aa,_,rfl,rfl,?_⟩
   rw [chgF,af hw,J]
   exact s'
end
def szB : List bR→Nat
 | []=>0
 | r::l=>r.len+szB l
theorem gq : ∀ {rs:List bR} {n:Nat},(logB n rs).length=szB rs:=by
 intro rs
 induction rs with
 | nil=>intro n; rfl
 | cons r rs I=>intro n; simp only [logB,szB,bC,sG,I]; rfl
theorem fS {x y:List bR}: szB (x++y)=szB x+szB y:=by
 induction x with
 | nil=>simp [szB]
 | cons r x I=>simp only [fF,szB,I]; omega
theorem u6 {y:List bR}: ∀ {x:List bR} {n:Nat},logB n (x++y)=logB n x++logB (n+szB x) y:=by
 intro x
 induction x with
 | nil=>intro n; simp [logB,szB]
 | cons r x I=>intro n; simp only [fF,logB,szB,I,bH,gK]
theorem x_ {y:List bR}: ∀ {x:List bR} {a:Nat},gC a (x++y)=gC a x++gC (a+szB x) y:=by
 intro x
 induction x with
 | nil=>intro a; simp [gC,szB]
 | cons r x I=>intro a; simp only [fF,gC,szB,I,gK]
theorem vy : ∀ {rs:List bR} {a:Nat},(gC a rs).Pairwise (· < ·)∧∀s∈gC a rs,a≤s∧s<a+szB rs:=by
 intro rs
 induction rs with
 | nil=>intro a; exact ⟨List.Pairwise.nil,by simp [gC]⟩
 | cons r rs J =>
  intro a
  obtain ⟨U,I⟩:=J (a:=a+r.len)
  have h8:8≤r.len:=by rw [bR.len]; omega
  simp only [gC,szB,pG,fo]
  refine ⟨⟨fun s hs=>by have:=I s hs; omega,U⟩,?_⟩
  rintro s (rfl | hs)
  ·omega
  ·have:=I s hs; omega
theorem RC : ∀ {rs:List bR} {a:Nat},(gC a rs).length=rs.length:=by
 intro rs
 induction rs with
 | nil=>intro a; rfl
 | cons r rs I=>intro a; simp only [gC,bl,I]
theorem YT : ∀ {rs:List bR},rs.length*8≤szB rs:=by
 intro rs
 induction rs with
 | nil=>simp
 | cons r rs I=>have:8≤r.len:=(by rw [bR.len]; omega); simp only [szB,bl]; omega
theorem K0 {base aC:Nat}{rs:List bR}(I:base+szB rs≤1099511627776)(J:szB rs≤16777216)(U:aC≤1099511627776): (ie base aC rs).Ok:=by
 have h4:=YT (rs:=rs)
 refine ⟨?_,?_,?_,(vy (a:=0)).1,?_,?_,U⟩
 ·show base+(logB base rs).length≤_; rw [gq]; exact I
 ·show (gC 0 rs).length≤_; rw [RC]; omega
 ·intro s hs
  have:=(vy (a:=0) (rs:=rs)).2 s hs
  show s<(logB base rs).length
  rw [gq]; omega
 ·exact aI _
 ·show (logB base rs).length≤_; rw [gq]; exact J
theorem RD {base aC:Nat}{dr fQ:List bR}{r:bR}: (ie base aC (dr++r::fQ)).hasB (base+szB dr)=true:=by
 rw [Lg.hasB,rf]
 refine ⟨szB dr,?_,by simp [ie]⟩
 show szB dr∈gC 0 (dr++r::fQ)
 rw [x_,dV]
 exact List.mem_append.2 (.inr br)
def DD (n:Nat)(aR:List cn)(ρ:gw): gw:=aR.foldl (fun ρ c=>chgF n c ρ) ρ
def redoL : Nat→List bR→gw→gw
 | _,[],ρ=>ρ
 | n,r::l,ρ=>redoL (n+r.len) l (DD n r.aR ρ)
theorem FU {α:Type}{n:Int}{a:α}: ∀ {l:List (Int×α)} {e:Int×α},e∈cN n a l→e=(n,a)∨e∈l:=xV
structure gw.Ok (ρ:gw): Prop where
 len:∀e∈ρ.aq,e.2.length=512
 low:∀k∈ρ.aq.map (·.1),(0:Int)≤k∧k<65536
 dup:(ρ.aq.map (·.1)).Nodup
theorem K1 {n:Nat}{c:cn}{ρ:gw}(h:ρ.Ok)(I:c.Ok): (chgF n c ρ).Ok:=by
 have U:c.whole=true→c.pos=0∧c.b.length=512:=I.2.2.2.2.2
 have key:∀b:List Nat,b.length=512→∀L,(gw.mk (cN c.aM b ρ.aq) L).Ok:=fun b hb L=>by
  refine ⟨fun e he => ?_,fun k hk => ?_,iQ h.dup⟩
  ·rcases FU he with rfl | he
   ·exact hb
   ·exact h.len e he
  ·rcases oY.1 hk with rfl | hk
   ·exact ⟨I.1,I.2.1⟩
   ·exact h.low k hk
 unfold chgF
 split
 ·rename_i hw
  exact key _ (U hw).2 _
 ·split
  ·exact h
  ·rename_i b hb
   have J:=h.len _ (fC hb)
   simp only at J
   have:=I.2.2.1
   have:=I.2.2.2.2.1
   refine key _ ?_ _
   rw [iO (by omega),J]
theorem IB {n:Nat}: ∀ {aR:List cn} {ρ:gw},ρ.Ok→(∀c∈aR,c.Ok)→(DD n aR ρ).Ok:=by
 intro aR
 induction aR with
 | nil=>intro ρ h _; exact h
 | cons c aR J=>intro ρ h I; exact J (K1 h (I c br)) (fun x U=>I x (bp _ U))
theorem bR.Ok.aR {r:bR}(h:r.Ok): ∀c∈r.aR,c.Ok:=by
 have:=h.good
 simp only [dU,aZ,pK,dZ] at this
 exact this.2
theorem Ci : ∀ {rs:List bR} {n:Nat} {ρ:gw},ρ.Ok→(∀r∈rs,r.Ok)→(redoL n rs ρ).Ok:=by
 intro rs
 induction rs with
 | nil=>intro n ρ h _; exact h
 | cons r rs J=>intro n ρ h I; exact J (IB h (I r br).aR) (fun x U=>I x (bp _ U))
def ox (ρ:gw)(k:Int): Nat:=(lookL k ρ.oF).getD 0
def againW (ρ:gw): List Int→Dk→Int×Dk
 | [],δ=>(0,δ)
 | k::l,δ =>
  match lookL k ρ.aq with
  | some b=>if bT b=true∧k<δ.aq.length then (if (δ.bk k (cO b (ox ρ k))).1≠0 then δ.bk k (cO b (ox ρ k)) else againW ρ l (δ.bk k (cO b (ox ρ k))).2) else againW ρ l δ
  | none=>againW ρ l δ
def mG (ρ:gw)(δ:Dk): Int×Dk :=
 if (againW ρ (aF ρ.aq) δ).1≠0 then againW ρ (aF ρ.aq) δ else if ρ.aq=[] then (0,(againW ρ (aF ρ.aq) δ).2) else (againW ρ (aF ρ.aq) δ).2.c7
section
variable {told:dM} {h:H} {S:List ax} {X:ax} {ch fv v op dv:V} {cs:List V} {a p q r x n base aC c0:Nat} {ρ:gw} {δ:Dk}
noncomputable def agI : Code:=cM [1,1,1,0,1,0,0,0,1,1,0,1,0,0] ((Tryz.f62.body).getD .skip)
theorem Pq (hT:W told){aR:List cn}(qS:∀c∈aR,c.Ok){av nv:V}: ∀(j i:Nat) (ρ:gw) (h:H) (E:List (Nat×V)) (Q:Ex→List (Nat×V)→H→Prop),i+j=aR.length→aR.length<4294967296→ρ.Ok →
  Sat h (xY x ρ::.arr 4 ch cs::cZ cs aR::S) →
  Has E [(0,av),(5,.ptr x 0),(6,.fn (.func 107) [.ptr x 0] []),(7,.int .u64 (n:Int)),(9,nv),(38,ch),(39,.int .i64 aR.length),(40,.int .i64 i)] →
  (∀E' h',Has E' [(0,av),(5,.ptr x 0),(6,.fn (.func 107) [.ptr x 0] []),(9,nv)]→Sat h' (xY x (DD n (aR.drop i) ρ)::.arr 4 ch cs::cZ cs aR::S)→Q (.exit 2) E' h') →
  WP ⟨Tryz.prog,told⟩ 110 (.loop agI) E h Q:=by
 intro j
 induction j with
 | zero =>
  intro i ρ h E Q hi hl I s hE hq
  refine WP.loop (WP.has hE (zg rfl (zh rfl (ah rfl rfl bB) (by simp; omega) ?_)))
  exact zk 3 rfl (WP.exit (hq _ _ ⟨rfl,rfl,rfl,rfl,aa⟩ (by rw [tA (by omega)]; exact s)))
 | succ j ih =>
  intro i ρ h E Q hi hl I s hE hq
  have hc:aR[i]?=some (aR[i]'(by omega)):=bg _
  generalize (aR[i]'(by omega))=c at hc
  have U:=qS c (bw hc)
  have J:aR.drop i=c::aR.drop (i+1):=by
   obtain ⟨h1,rfl⟩:=List.getElem?_eq_some_iff.1 hc
   exact lq h1
  obtain ⟨id,off,u,e1,e2,u1,u2,u3,s⟩:=HI (s.ae [1,1]) hc
  dsimp only [aU,bringA] at s
  refine WP.loop (WP.has hE (zg rfl (zt rfl (ah rfl rfl bB) (by simp; omega) ?_)))
  refine zk 5 rfl (WP.block (zg rfl (zo rfl (ej (r:=.ptr id off) rfl rfl e1) (zl rfl e2 ?_))))
  refine aB.cT s rfl rfl rfl (cI rJ) (fun Wv h s => ?_)
  dsimp only [V.cells,List.length_cons,List.length_nil,Nat.reduceAdd] at s
  refine zS rfl (s.ia (j:=0) rfl sM rfl (by simp only [jl,jY,u2]; rfl)) ?_
  rintro h s
  dsimp only [setA] at s
  refine zk 4 rfl (zl rfl (s.fM (k:=0) rfl LO sM) (zc rfl (Pp (n:=n) hT I.len U (s.ae [4,1])) ?_))
  rintro v h ⟨rfl,s⟩
  dsimp only [aU,bringA] at s
  refine zv (zr rfl (zb rfl (by exact bU (aY (by omega) (by omega))) ?_))
  refine zm rfl (zv ?_)
  have s:=(s.ae [0,2,2]).del 3
  have s:=s.del 3
  refine ih (i+1) (chgF n c ρ) _ _ Q (by omega) hl (K1 I U) s ⟨rfl,rfl,rfl,rfl,rfl,rfl,rfl,rfl,aa⟩ (fun E' h' iH s'=>hq E' h' iH ?_)
  rw [J]
  exact s'
theorem IC (U:WR told){dr fQ:List bR}{r:bR}(J:(ie base aC (dr++r::fQ)).Ok)(I:r.Ok)(s:Sat h (bh q p (ie base aC (dr++r::fQ))::S)):
  Call ⟨Tryz.prog,told⟩ 20 [.ptr q 0,.int .u64 ((base+szB dr:Nat):Int)] h fun v h'=>∃dt ch cs,v=.bE [.agg (iI r.kd r.tx r.pv r.nx dt ch),.int .u64 ((base+szB dr+r.len:Nat):Int),.int .i64 0] ∧
   Sat h' (bh q p (ie base aC (dr++r::fQ))::bK dt r.data::.arr 4 ch cs::cZ cs r.aR::S):=by
 refine (O6 (n:=base+szB dr) (a:=szB dr) (pre:=logB base dr) (rest:=logB (base+szB dr+r.len) fQ) U I.good I.kd I.rd rfl I.len gq ?_ rfl RD J s).mono fun v h' hx => ?_
 ·show logB base (dr++r::fQ)=_
  rw [u6,logB]
  rfl
 ·have e:base+szB dr+r.len=base+szB dr+8+(dB r.kd r.tx r.pv r.nx r.data r.aR).length:=by rw [bR.len,bR.bd]; omega
  rw [e]
  exact hx
noncomputable def agO : Code:=cM [1,1,1,0,1,0,0] ((Tryz.f62.body).getD .skip)
theorem MC (hT:WR told){rs:List bR}{wv:Nat}(vb:∀r∈rs,r.Ok)(I:(ie base aC rs).Ok): ∀(fQ dr:List bR) (ρ:gw) (h:H) (E:List (Nat×V)) (Q:Ex→List (Nat×V)→H→Prop),rs=dr++fQ→ρ.Ok →
  Sat h (xY x ρ::pt a (.cells 6 (qJ a p q r op dv wv) false)::bh q p (ie base aC rs)::S) →
  Has E [(0,.ptr a 0),(5,.ptr x 0),(6,.fn (.func 107) [.ptr x 0] []),(7,.int .u64 ((base+szB dr:Nat):Int))] →
  (∀E' h',Has E' [(0,.ptr a 0),(5,.ptr x 0)]→Sat h' (xY x (redoL (base+szB dr) fQ ρ)::pt a (.cells 6 (qJ a p q r op dv wv) false)::bh q p (ie base aC rs)::S)→Q (.exit 0) E' h') →
  WP ⟨Tryz.prog,told⟩ 110 (.loop agO) E h Q:=by
 have hW:=hT.w
 intro fQ
 induction fQ with
 | nil =>
  intro dr ρ h E Q he J s U hq
  refine WP.loop (WP.has U ?_)
  have s:=s.ae [1,1,0]
  dsimp only [qJ,bringA,getA,aU] at s
  have eX:=I.size
  have hn:base+szB dr=(ie base aC rs).base+(ie base aC rs).b.length:=by
   show _=base+(logB base rs).length
   rw [gq,he,bF]
  refine WP.block (zK 4 rfl (zf rfl (lM _ _) (zl rfl (s.ld (k:=0) rfl nF rfl) (zm rfl (zc rfl (Dt (n:=base+szB dr) hW (s.ae [1]) I (by omega) (.inl hn)) ?_)))))
  rintro v h ⟨e,he0,rfl,s⟩
  refine zk 4 rfl ?_
  refine aB.cT s rfl rfl rfl (cI rI) (fun p8 h s => ?_)
  dsimp only [V.cells,List.length_cons,List.length_nil,Nat.reduceAdd,aU,bringA] at s
  refine zS rfl (s.ia (j:=0) rfl gM rfl rfl) (fun h s => ?_)
  dsimp only [setA] at s
  refine zk 7 rfl (zt rfl (ah rfl rfl aV) (by simp; exact he0) ?_)
  exact zk 2 rfl (WP.exit (hq _ _ ⟨rfl,rfl,aa⟩ ((s.drop).ae [2,1,0])))
 | cons y fQ ih =>
  intro dr ρ h E Q he J s U hq
  subst he
  have hy:=vb y (by simp)
  refine WP.loop (WP.has U ?_)
  have s:=s.ae [1,1,0]
  dsimp only [qJ,bringA,getA,aU] at s
  refine WP.block (zK 4 rfl (zf rfl (lM _ _) (zl rfl (s.ld (k:=0) rfl nF rfl) (zm rfl (zc rfl (IC (dr:=dr) (fQ:=fQ) (r:=y) hT I hy (s.ae [1])) ?_)))))
  rintro v h ⟨dt,ch,cs,rfl,s⟩
  dsimp only [aU,bringA] at s
  have j5:=(s.buf (k:=1) rfl).view.cells
  have ki:=s.kU (j:=2) rfl
  have gF:[V.int .i64 (y.kd:Int),V.int .u64 (y.tx:Int),V.int .u64 (y.pv:Int),V.int .u64 (y.nx:Int),dt,ch].all storable=true:=mZ j5.2 ki.2.1
  refine zk 4 rfl ?_
  refine aB.cT s rfl rfl rfl (cI rI) (fun p8 h s => ?_)
  dsimp only [V.cells,List.length_cons,List.length_nil,Nat.reduceAdd] at s
  refine zS rfl (s.ia (j:=0) rfl gM rfl gF) ?_
  rintro h s
  dsimp only [setA] at s
  refine zk 7 rfl (zh rfl (ah rfl rfl aV) (rfl) (zk 6 rfl (zf rfl (mY _ _) (zl rfl (s.ld (k:=0) rfl uB rfl) (zo rfl (bf rfl rfl rfl (s.wM (j1:=3) (j2:=4) rfl rfl iR)) (zk 2 rfl (WP.block ?_)))))))
  have s:=s.ae [6,3,3,3,1]
  dsimp only [bringA,getA,aU] at s
  refine Pq (n:=base+szB dr) hW hy.aR y.aR.length 0 ρ h _ _ (by omega) (by have:=hy.rd.many; omega) J s ⟨rfl,rfl,rfl,rfl,rfl,rfl,rfl,rfl,aa⟩ (fun E h U s => ?_)
  rw [d_] at s
  refine WP.has U (zr rfl (zk 2 rfl (zv ?_)))
  have s:=(((s.del 6).del 5).ae [0,2,2]).del 3
  have s:=s.del 3
  refine ih (dr++[y]) (DD (base+szB dr) y.aR ρ) _ _ Q (by simp) (IB J hy.aR) s ⟨rfl,rfl,rfl,?_,aa⟩ (fun E' h' iH s'=>hq E' h' iH ?_)
  ·rw [fS]
   show some (V.int .u64 ((base+szB dr+y.len:Nat):Int))=_
   rw [show base+(szB dr+szB [y])=base+szB dr+y.len by simp only [szB]; omega]
  ·rw [redoL,show base+szB dr+y.len=base+szB (dr++[y]) by rw [fS]; simp only [szB]; omega]
   exact s'
structure oG (δ:Dk)(m:Nat): Prop where
 ok:δ.Ok
 wait:δ.waiting.length+m≤268435456
 now:∀e∈δ.now,0≤e.1∧e.1<δ.aq.length
theorem oG.less {δ:Dk}{m:Nat}(h:oG δ (m+1)): oG δ m:=⟨h.ok,by have:=h.wait; omega,h.now⟩
theorem oG.write {δ:Dk}{m:Nat}{k:Int}{b:List Nat}(h:oG δ (m+1))(h0:0≤k)(h1:k<δ.aq.length): oG (δ.bk k b).2 m∧(δ.bk k b).2.aq=δ.aq:=by
 have hw:=h.wait
 have I:=h.ok.bk (n:=k) (b:=b)
 unfold Dk.bk at I ⊢
 split at I
 ·rename_i J
  rw [aj J]
  exact ⟨⟨I,by simp only; omega,h.now⟩,rfl⟩
 ·rename_i J
  rw [af J]
  split at I
  ·rename_i U
   rw [aj U]
   exact ⟨⟨I,by simp only; omega,h.now⟩,rfl⟩
  ·rename_i U
   rw [af U]
   split at I
   ·rename_i h3
    rw [aj h3]
    exact ⟨⟨I,by show δ.waiting.length+m≤_; omega,h.now⟩,rfl⟩
   ·rename_i h3
    rw [af h3]
    refine ⟨⟨I,?_,fun e he => ?_⟩,rfl⟩
    ·show (δ.waiting++[(k.toNat,b)]).length+m≤_
     simp only [bC,bl,bY]; omega
    ·rcases FU he with rfl | he
     ·exact ⟨h0,h1⟩
     ·exact h.now e he
noncomputable def agS : Code:=cM [1,1,1,1,0,1,0,0] ((Tryz.f62.body).getD .skip)
theorem JQ (hT:W told){ks:List Int}{kv:V}{i0 j0 wv:Nat}(OA:ks.length≤65536)(uM:∀k∈ks,0≤k)(sU:∀k∈ks,(lookL k ρ.aq).isSome=true)(hlen:∀e∈ρ.aq,e.2.length=512): ∀(j i:Nat) (δ:Dk) (h:H) (E:List (Nat×V)) (Q:Ex→List (Nat×V)→H→Prop),i+j=ks.length→oG δ j →
  Sat h (pt x (.cells 2 [.map i0,.map j0] false)::jg (fun v b=>.ct v b) (.map i0) ρ.aq::jg Ch (.map j0) ρ.oF::.arr 1 kv (eT ks)::pt a (.cells 6 (qJ a p q r op dv wv) false)::aG p δ::S) →
  Has E [(0,.ptr a 0),(5,.ptr x 0),(55,kv),(56,.int .i64 ks.length),(57,.int .i64 i)] →
  (∀E' h',(againW ρ (ks.drop i) δ).1≠0→look E' 4=some (.int .i64 (againW ρ (ks.drop i) δ).1)→Sat h' (pt a (.cells 6 (qJ a p q r op dv wv) false)::aG p (againW ρ (ks.drop i) δ).2::S)→Q .ret E' h') →
  (∀E' h',(againW ρ (ks.drop i) δ).1=0→oG (againW ρ (ks.drop i) δ).2 0→Has E' [(0,.ptr a 0),(5,.ptr x 0)]→Sat h' (pt x (.cells 2 [.map i0,.map j0] false)::jg (fun v b=>.ct v b) (.map i0) ρ.aq::pt a (.cells 6 (qJ a p q r op dv wv) false)::aG p (againW ρ (ks.drop i) δ).2::S)→Q (.exit 4) E' h') →
  WP ⟨Tryz.prog,told⟩ 110 (.loop agS) E h Q:=by
 intro j
 induction j with
 | zero =>
  intro i δ h E Q hi I s hE J U
  rw [tA (by omega)] at J U
  refine WP.loop (WP.has hE (zg rfl (zh rfl (ah rfl rfl bB) (by simp; omega) ?_)))
  exact zk 3 rfl (WP.exit (U _ _ rfl I ⟨rfl,rfl,aa⟩ ((s.ae [0,0,2,2]).del 5 |>.del 4)))
 | succ j ih =>
  intro i δ h E Q hi I s hE J U
  have hn:ks[i]?=some (ks[i]'(by omega)):=bg _
  generalize (ks[i]'(by omega))=k at hn
  have hkm:=bw hn
  have Vi:=uM k hkm
  have jD:ks.drop i=k::ks.drop (i+1):=by
   obtain ⟨J,rfl⟩:=List.getElem?_eq_some_iff.1 hn
   exact lq J
  obtain ⟨b,hb⟩:=Option.isSome_iff_exists.1 (sU k hkm)
  have uq:b.length=512:=hlen _ (fC hb)
  rw [jD,againW,hb] at J U
  simp only at J U
  have hc:(eT ks)[i]?=some (.int .i64 k):=by simp [eT,hn]
  obtain ⟨id,off,e1,e2⟩:=lC s (k:=3) rfl hc eH jK
  refine WP.loop (WP.has hE (zg rfl (zt rfl (ah rfl rfl bB) (by simp; omega) ?_)))
  refine zk 5 rfl (WP.block (zg rfl (zo rfl (ej (r:=.ptr id off) rfl rfl e1) (zl rfl (e2 _ dA) (zk 3 rfl ?_)))))
  rcases mL (n:=k) (fun _ _=>aH.ct _ _) (s.ae [1]) lN bG zC with ⟨hl,_⟩ | ⟨u,b',hl,_,f2,s⟩
  ·rw [hb] at hl; cases hl
  rw [hb] at hl
  injection hl with hl
  subst hl
  dsimp only [qJ,aU,bringA] at s
  obtain ⟨f4,s⟩:fq Tryz.prog h 179 (.map j0) (.int .i64 k) false=some (.int .u64 (ox ρ k:Int))∧Sat h (jg Ch (.map j0) ρ.oF::.ct u b::jg (fun v b=>.ct v b) (.map i0) ρ.aq::pt x (.cells 2 [.map i0,.map j0] false)::.arr 1 kv (eT ks)::pt a (.cells 6 (qJ a p q r op dv wv) false)::aG p δ::S):=by
   have s:=s.ae [3,0,0,0]
   rcases mL (n:=k) (fun _ _=>aH.pu _) s Tryz.underlying179 bG Wc with ⟨hl,_,f⟩ | ⟨w,y,hl,_,f,s⟩
   ·exact ⟨by rw [f,ox,hl]; rfl,s⟩
   ·obtain ⟨rfl,s2⟩:=eR.1 s
    exact ⟨by rw [f,ox,hl]; rfl,s2⟩
  have s:=s.ae [3,4,1]
  dsimp only [qJ,bringA,getA,aU] at s
  have Fx:=dc (s.aL (k:=2) rfl (cJ _ _))
  refine WP.drawn [ai,ai,ai,ai,ai,ai,ai,ai,ai,ai,ai,ai,ai,ai,ai,ai,ai,ai] rfl (by kernel_rfl) (by kernel_rfl) ?_
  refine zM rfl (zN rfl (zF rfl (pZ _ _) (zL rfl (s.ld (k:=0) rfl mB rfl) (zM rfl (zO rfl (gT rfl rfl f2) (zM rfl (zN rfl (zF rfl (Kn _ _) (zL rfl (s.ld (k:=0) rfl SB rfl) (zM rfl (zO rfl (gT rfl rfl f4) (aA.any rfl rfl rfl rfl (OpR.call rfl rfl rfl rfl (Kv (n:=ox ρ k) hT (s.ae [2]) (cJ _ _) (by omega))) ?_))))))))))))
  rintro v h (⟨hg,u2,rfl,s⟩ | ⟨hg,rfl,s⟩)
  ·skip
   dsimp only [aU,bringA] at s
   refine zM rfl (zO rfl (cA rfl rfl) (zO rfl (cA rfl rfl) (zA rfl (zA rfl ?_))))
   refine aA.nil ⟨⟨aa,aa,aa,aa,aa,aa,aa,aa,aa,aa,aa,aa,aa,aa,aa,aa,aa,aa,aa⟩,?_⟩
   refine zK 4 rfl (zh rfl (ah rfl rfl aV) (rfl) (zk 4 rfl (zf rfl (qA _ _) (zl rfl (s.ld (k:=3) rfl jL rfl) (zc rfl (B6 hT (s.ae [7])) ?_)))))
   rintro v h' ⟨rfl,rfl⟩
   by_cases hp:k<δ.aq.length
   ·skip
    rw [aj ⟨hg,hp⟩] at J U
    have lK:=(qj (n:=ox ρ k) uq).2.1
    have KC:=I.wait
    have hw:=I.write (k:=k) (b:=cO b (ox ρ k)) Vi hp
    refine zh rfl (ah rfl rfl nC) (by simp; omega) ?_
    refine zk 8 rfl (zf rfl (qA _ _) (zl rfl (s.ld (k:=3) rfl jL rfl) (zk 2 rfl (zc rfl (Ky hT (s.ae [7,0]) (bM _ _) (by omega) I.ok.aD (by omega)) ?_))))
    rintro v h ⟨rfl,s⟩
    dsimp only [aU,bringA] at s
    by_cases h0:(δ.bk k (cO b (ox ρ k))).1=0
    ·rw [af (not_not_intro h0)] at J U
     rw [h0]
     refine za rfl (zv (zg rfl (zm rfl (zh rfl (ah rfl rfl aV) (rfl) (zv (zj rfl (WP.skip (zr rfl (zb rfl (by exact bU (aY (by omega) (by omega))) ?_)))))))))
     refine zm rfl (zv ?_)
     have s:=(s.ae [3,5,4,4,3,0]).del 6
     have s:=s.del 6
     dsimp only [bringA,getA,aU] at s
     exact ih (i+1) _ _ _ Q (by omega) hw.1 s ⟨rfl,rfl,rfl,rfl,rfl,aa⟩ J U
    ·skip
     rw [aj h0] at J U
     refine zk 5 rfl (zt rfl (ah rfl rfl aV) (by simpa using h0) ?_)
     refine zk 7 rfl (WP.ret ?_)
     have s:=(s.ae [4,0]).del 2
     exact J _ _ h0 rfl ((((s.del 2).del 2).del 2).del 2 |>.del 2)
   ·skip
    rw [af (fun q=>hp q.2)] at J U
    refine zt rfl (ah rfl rfl nC) (by simp; omega) ?_
    refine zk 3 rfl (WP.exit (zr rfl (zb rfl (by exact bU (aY (by omega) (by omega))) ?_)))
    refine zm rfl (zv ?_)
    have s:=(s.ae [2,4,3,3,2,2]).del 6
    have s:=s.del 6
    dsimp only [bringA,getA,aU] at s
    exact ih (i+1) _ _ _ Q (by omega) I.less s ⟨rfl,rfl,rfl,rfl,rfl,aa⟩ J U
  ·skip
   rw [af (fun q=>by rw [hg] at q; cases q.1)] at J U
   dsimp only [aU,bringA] at s
   refine zM rfl (zO rfl (cA rfl rfl) (zO rfl (cA rfl rfl) (zA rfl (zA rfl ?_))))
   refine aA.nil ⟨⟨aa,aa,aa,aa,aa,aa,aa,aa,aa,aa,aa,aa,aa,aa,aa,aa,aa,aa,aa⟩,?_⟩
   refine zK 4 rfl (zt rfl (ah rfl rfl aV) (rfl) (zk 11 rfl (WP.exit (zr rfl (zb rfl (by exact bU (aY (by omega) (by omega))) ?_)))))
   refine zm rfl (zv ?_)
   have s:=(s.ae [1,3,2,2,1,1]).del 6
   exact ih (i+1) _ _ _ Q (by omega) I.less s ⟨rfl,rfl,rfl,rfl,rfl,aa⟩ J U
end
def gw.none : gw:=⟨[],[]⟩
theorem Bh : gw.none.Ok:=⟨fun e h=>(by cases h),fun k h=>(by cases h),kG⟩
theorem gw.Ok.few {ρ:gw}(h:ρ.Ok): ρ.aq.length≤65536:=by
 have:=vu 65536 _ h.dup (fun n I=>by have:=h.low n I; omega)
 simpa using this
theorem ID {α:Type}{m:List (Int×α)}: (aF m).length=m.length:=by rw [aF,(eG _).length_eq,eu]
theorem Cj {α:Type}{m:List (Int×α)}{k:Int}: k∈aF m↔k∈m.map (·.1):=(eG _).mem_iff
section
variable {told:dM} {h:H} {S:List ax} {op:V} {data:List Nat} {a p q r base aC c0:Nat} {δ:Dk}
theorem RE (hT:W4 told){rs dr fQ:List bR}(he:rs=dr++fQ)(vb:∀r∈rs,r.Ok)(EH:(ie base aC rs).Ok)(J:oG δ 65536)(s:Sat h (cC a p q r op data c0::bh q p (ie base aC rs)::aG p δ::S)):
  Call ⟨Tryz.prog,told⟩ 62 [.ptr a 0,.int .u64 ((base+szB dr:Nat):Int)] h fun v h' =>
   v=.int .i64 (mG (redoL (base+szB dr) fQ gw.none) δ).1∧Sat h' (cC a p q r op data c0::bh q p (ie base aC rs)::aG p (mG (redoL (base+szB dr) fQ gw.none) δ).2::S):=by
 have hW:=hT.w.w.w
 have I:(redoL (base+szB dr) fQ gw.none).Ok:=Ci Bh (fun r hr=>vb r (by rw [he]; exact List.mem_append.2 (.inr hr)))
 obtain ⟨dv,s⟩:=bL.1 s
 refine Call.of_wp (hW.free _ rfl) Tryz.func62 rfl rfl (zK 6 rfl ?_)
 refine aB.zB s rfl rfl rfl rfl (fun p18 h s => ?_)
 refine aB.zB s rfl rfl rfl rfl (fun p19 h s => ?_)
 refine zo rfl (c8 rfl (by rw [SC]; rfl)) ?_
 refine aB.cT s rfl rfl rfl (gL rfl rfl) (fun Wx h s => ?_)
 refine zk 5 rfl (zo rfl (A2 rfl rfl) (zk 8 rfl (WP.block ?_)))
 have s:=(s.gB (φ:=True) aa).gB (φ:=True) aa
 have s:=u5 (ρ:=gw.none).2 ⟨_,[],0,_,[],0,⟨aa,kG,aa,kG⟩,s.ae [2,3,0,1,0]⟩
 refine MC hT.wr vb EH fQ dr gw.none h _ _ he Bh (s.ae [0,0,1]) ⟨rfl,rfl,rfl,rfl,aa⟩ (fun E h hE s => ?_)
 generalize hρ:redoL (base+szB dr) fQ gw.none=ρ at I s
 refine WP.has hE ?_
 obtain ⟨i,l,k,j,m,g,⟨h1,h2,h3,h4⟩,s⟩:=u5.1 s
 have s:=JP (s.ae [2])
 have s:=eF.2 ⟨i,l,k,rfl,h1,h2,s.ae [2,0]⟩
 have s:=eF.2 ⟨j,m,g,rfl,h3,h4,s.ae [2,2]⟩
 have s:=s.ae [2,1,0]
 have abe:=I.few
 refine zK 5 rfl (zf rfl (pZ _ _) (zl rfl (s.ld (k:=0) rfl mB rfl) (zc rfl (xM hW s) ?_)))
 rintro v h ⟨kb,rfl,s⟩
 refine zc rfl (qf hW (s.ae [0,1]) (by decide) (by omega) (fun n hn=>wf_i64 (by have:=I.low n hn; omega) (by have:=I.low n hn; omega))) ?_
 intro kv h s
 refine zo rfl (bf rfl rfl rfl (s.iP (n:=(aF ρ.aq).length) (j:=0) rfl (by simp [eT]) (by decide) eH)) ?_
 refine zk 2 rfl (WP.block ?_)
 have s:=(s.ae [3,2,2,0,1,3]).del 6
 refine JQ hW (ks:=aF ρ.aq) (by rw [ID]; exact abe) (fun k hk=>(I.low k (Cj.1 hk)).1) (fun k hk=>by
  cases hl:lookL k ρ.aq with
  | none=>exact absurd (Cj.1 hk) (fD.1 hl)
  | some b=>rfl) I.len (aF ρ.aq).length 0 δ h _ _ (by omega) (by rw [ID]; exact ⟨J.ok,by have:=J.wait; omega,J.now⟩) s ⟨rfl,rfl,rfl,rfl,rfl,aa⟩ (fun E' h' U e2 s' => ?_) (fun E h U e2 hE s => ?_)
 ·rw [d_] at U e2 s'
  have e:mG ρ δ=againW ρ (aF ρ.aq) δ:=by rw [mG,aj U]
  rw [e]
  exact ⟨aa,_,qy e2,rfl,(bL.2 ⟨dv,s'.ae [0,2]⟩).ae [0,1,0]⟩
 ·rw [d_] at U e2 s
  refine WP.has hE (zK 5 rfl (zf rfl (pZ _ _) (zl rfl (s.ld (k:=0) rfl mB rfl) (zo rfl (bf rfl rfl rfl (B2 (s.ae [1]) lN)) ?_))))
  by_cases hz:ρ.aq=[]
  ·skip
   have e:mG ρ δ=(0,(againW ρ (aF ρ.aq) δ).2):=by rw [mG,af (not_not_intro U),aj hz]
   rw [e]
   refine zt rfl (ah rfl rfl cB) (by rw [hz]; rfl) ?_
   exact zk 6 rfl (WP.ret ⟨aa,_,rfl,rfl,(bL.2 ⟨dv,((s.drop.drop).ae [0,2])⟩).ae [0,1,0]⟩)
  ·skip
   have e:mG ρ δ=(againW ρ (aF ρ.aq) δ).2.c7:=by rw [mG,af (not_not_intro U),af hz]
   rw [e]
   refine zh rfl (ah rfl rfl cB) (by have:ρ.aq.length≠0:=fun h=>hz (qW h); simp; omega) ?_
   refine zk 7 rfl (zf rfl (qA _ _) (zl rfl (s.ld (k:=2) rfl jL rfl) (zc rfl (KF hT.w.w (s.ae [3]) e2.ok e2.now) ?_)))
   rintro v h ⟨rfl,s⟩
   dsimp only [qJ,V.cells,List.take,List.length_cons,List.length_nil,Nat.reduceAdd,List.drop,List.cons_append,List.nil_append,aU,bringA,getA] at s
   exact zk 2 rfl (WP.ret ⟨aa,_,rfl,rfl,(bL.2 ⟨dv,(((s.ae [3,4,3,0]).del 4).del 4)⟩).ae [0,0,0]⟩)
end
def MD (base aC:Nat)(rs:List bR)(data:List Nat)(dr fQ:List bR): Prop :=
 rs=dr++fQ∧((aC=0∧data=[]∧dr=[])∨∃A rc B,rs=A++rc::B∧aC=base+szB A∧aC≠0∧rc.kd=8∧8≤rc.data.length∧data=rc.data.drop 8∧max base (leN (rc.data.take 8))=base+szB dr)
def eP (δ:Dk)(base:Nat)(rs dr fQ:List bR): Int×Dk :=
 if (δ.cD (szB rs)).1≠0 then δ.cD (szB rs) else mG (redoL (base+szB dr) fQ gw.none) (δ.cD (szB rs)).2
theorem JR {δ:Dk}{n:Nat}: (δ.dI n).2.waiting=δ.waiting∧(δ.dI n).2.now=δ.now∧(δ.dI n).2.aq=δ.aq:=by
 unfold Dk.dI Dk.qO
 split
 ·split
  ·exact ⟨rfl,rfl,rfl⟩
  ·split
   ·exact ⟨rfl,rfl,rfl⟩
   ·split <;> exact ⟨rfl,rfl,rfl⟩
 ·exact ⟨rfl,rfl,rfl⟩
theorem JS {δ:Dk}: δ.cg.2.waiting=δ.waiting∧δ.cg.2.now=δ.now∧δ.cg.2.aq=δ.aq:=by
 unfold Dk.cg
 split
 ·exact ⟨rfl,rfl,rfl⟩
 ·split <;> exact ⟨rfl,rfl,rfl⟩
theorem DE {δ:Dk}{n:Nat}: (δ.cD n).2.waiting=δ.waiting∧(δ.cD n).2.now=δ.now∧(δ.cD n).2.aq=δ.aq:=by
 unfold Dk.cD
 have h:=JR (δ:=δ) (n:=n)
 split
 ·exact h
 ·split
  ·have I:=JS (δ:=(δ.dI n).2)
   exact ⟨I.1.trans h.1,I.2.1.trans h.2.1,I.2.2.trans h.2.2⟩
  ·exact h
theorem oG.cD {δ:Dk}{m n:Nat}(h:oG δ m): oG (δ.cD n).2 m:=by
 obtain ⟨I,J,U⟩:=DE (δ:=δ) (n:=n)
 exact ⟨h.ok.cD,by rw [I]; exact h.wait,by rw [J,U]; exact h.now⟩
section
variable {told:dM} {h:H} {S:List ax} {data j:List Nat} {p base aC:Nat} {δ:Dk}
noncomputable def soE : Code:=cM [1,1,1,1,1,1,1,1,1] ((Tryz.f21.body).getD .skip)
theorem FW (hT:W4 told){a q r n:Nat}{rs dr fQ:List bR}(he:rs=dr++fQ)(J:∀r∈rs,r.Ok)(U:(ie base aC rs).Ok)(tv:oG δ 65536){c0:Nat}
 (s:Sat h (cC a p q r .cK data c0::cj r p q (Pl.fresh n)::bh q p (ie base aC rs)::aG p δ::S)){E:List (Nat×V)}{Q:Ex→List (Nat×V)→H→Prop}(hE:Has E [(9,.ptr a 0),(10,.int .u64 ((base+szB dr:Nat):Int))])
 {y:Int×Dk}(hy:mG (redoL (base+szB dr) fQ gw.none) δ=y)
 (h1:∀E' h',y.1≠0→look E' 4=some .cK→look E' 5=some (.int .i64 y.1)→Sat h' (aG p y.2::S)→Q .ret E' h')
 (h2:∀E' h',y.1=0→look E' 4=some (.ptr a 0)→look E' 5=some (.int .i64 0)→Sat h' (cC a p q r .cK data c0::cj r p q (Pl.fresh n)::bh q p (ie base aC rs)::aG p y.2::S)→Q .ret E' h'): WP ⟨Tryz.prog,told⟩ 95 soE E h Q:=by
 refine WP.has hE (zK 5 rfl (zc rfl (RE hT he J U tv (s.ae [0,1,1])) ?_))
 rintro v h ⟨rfl,s⟩
 rw [hy] at s
 rw [hy]
 by_cases I:y.1=0
 ·skip
  rw [I]
  exact zk 5 rfl (zh rfl (ah rfl rfl aV) (rfl) (zk 9 rfl (WP.ret (h2 _ _ I rfl rfl (s.ae [0,2,0,0])))))
 ·skip
  refine zk 5 rfl (zt rfl (ah rfl rfl aV) (by simpa using I) ?_)
  exact zk 8 rfl (WP.ret (h1 _ _ I rfl rfl (((s.ae [2]).del 1 |>.del 1).del 1)))
theorem abf {P:Program}{h:H}{J:Array TypeId}{k:IntKind}{a b:Int}: builtinV P h .max J [.int k a,.int k b]=some (.int k (max a b),h):=by
 simp only [builtinV,foldV,maxV,dK,ag,iW]
 by_cases I:a<b
 ·simp only [I,AR,ag]
  rw [show max a b=b by omega]
 ·simp only [I,rA,ay]
  rw [show max a b=a by omega]
theorem IE (hT:W4 told){n:Nat}{rs dr fQ:List bR}(BG:1≤n)(Dz:n≤1024)(s:Sat h (aG p δ::S))(U:oG δ 65536)(hd:δ.dead=false)(hm:DC δ.mark base aC)(r9:base+δ.log.length≤1099511627776)(uZ:aC≤1099511627776)
 (Ao:δ.log=logB base rs++j)(J:∀r∈rs,r.Ok)(hj:rS j)(DF:MD base aC rs data dr fQ):
  Call ⟨Tryz.prog,told⟩ 21 [.ptr p 0,.int .i64 (n:Int)] h fun v h' =>
   ((eP δ base rs dr fQ).1≠0∧v=.bE [.cK,.int .i64 (eP δ base rs dr fQ).1]∧Sat h' (aG p (eP δ base rs dr fQ).2::S)) ∨
   ((eP δ base rs dr fQ).1=0∧∃a q r,v=.bE [.ptr a 0,.int .i64 0]∧Sat h' (cC a p q r .cK data aC::cj r p q (Pl.fresh n)::bh q p (ie base aC rs)::aG p (eP δ base rs dr fQ).2::S)):=by
 have hW:=hT.w.w.w
 have hlen:=U.ok.len
 have kx:δ.log.length=szB rs+j.length:=by rw [Ao,bC,gq]
 have EH:(ie base aC rs).Ok:=K0 (by omega) (by omega) uZ
 obtain ⟨Xs,DF⟩:=DF
 generalize hy:eP δ base rs dr fQ=y
 unfold eP at hy
 refine Call.of_wp (hW.free _ rfl) Tryz.func21 rfl rfl (zK 9 rfl (zh rfl (ah rfl rfl bB) (by simp <;> omega) ?_))
 refine zk 2 rfl (zh rfl (ah rfl rfl ep) (by simp <;> omega) ?_)
 refine zk 7 rfl (zc rfl (Rz hT.wr s U.ok hd hm r9 (by omega) Ao J hj) ?_)
 rw [gq]
 rintro v h (⟨I,rfl,s⟩ | ⟨I,q,rfl,s⟩)
 ·skip
  rw [aj I] at hy
  rw [hy] at I s
  rw [hy]
  refine zk 10 rfl (zt rfl (ah rfl rfl aV) (by simpa using I) ?_)
  exact zk 8 rfl (WP.ret ⟨aa,_,rfl,.inl ⟨I,rfl,s⟩⟩)
 rw [af (not_not_intro I)] at hy
 refine zk 10 rfl (zh rfl (ah rfl rfl aV) (rfl) (zk 8 rfl (zc rfl (KB (p:=p) (q:=q) (n:=n) hW s) ?_)))
 rintro v h (⟨hn,_,_⟩ | ⟨_,_,r,rfl,s⟩)
 ·omega
 rw [cQ] at s
 refine zk 10 rfl (zh rfl (ah rfl rfl aV) (rfl) (zk 8 rfl (zo rfl (c8 rfl (by rw [Wd]; rfl)) ?_)))
 refine aB.cT s rfl rfl rfl (gL rfl rfl) (fun p44 h s => ?_)
 refine zk 5 rfl (zc rfl (vm hW (s.ae [2])) ?_)
 rintro v h' ⟨rfl,rfl⟩
 refine zk 6 rfl (zc rfl (BC hW (s.ae [2])) ?_)
 rintro v h' ⟨rfl,rfl⟩
 rcases DF with ⟨rfl,rfl,rfl⟩ | ⟨A,rc,B,hA,hcA,S8,KU,h8,rfl,gF⟩
 ·skip
  refine zk 5 rfl (zh rfl (ah rfl rfl aV) (rfl) (zk 3 rfl ?_))
  have s1:=bL.2 ⟨.bz,(s.r7).ae [1,0]⟩
  exact FW hT Xs J EH U.cD s1 ⟨rfl,rfl,aa⟩ hy (fun E' h' I e1 e2 s'=>⟨aa,_,vJ e1 e2,.inl ⟨I,rfl,s'⟩⟩) (fun E' h' I e1 e2 s'=>⟨aa,_,vJ e1 e2,.inr ⟨I,_,_,_,rfl,s'⟩⟩)
 ·skip
  subst hA
  subst hcA
  have gy:¬(((ie base (base+szB A) (A++rc::B)).check:Nat):Int)=0:=by show ¬((base+szB A:Nat):Int)=0; omega
  refine zk 5 rfl (zt rfl (ah rfl rfl aV) (by simpa using gy) ?_)
  refine zk 6 rfl (zc rfl (IC (dr:=A) (fQ:=B) (r:=rc) hT.wr EH (J rc (by simp)) (s.ae [2])) ?_)
  rintro v h ⟨dt,ch,cs,rfl,s⟩
  have j5:=(s.buf (k:=1) rfl).view.cells
  have ki:=s.kU (j:=2) rfl
  have abg:[V.int .i64 (rc.kd:Int),V.int .u64 (rc.tx:Int),V.int .u64 (rc.pv:Int),V.int .u64 (rc.nx:Int),dt,ch].all storable=true:=mZ j5.2 ki.2.1
  refine zk 4 rfl ?_
  refine aB.cT s rfl rfl rfl (cI rI) (fun Wv h s => ?_)
  refine zS rfl (s.ia (j:=0) rfl gM rfl abg) ?_
  rintro h s
  refine zk 6 rfl (zt rfl (ah rfl rfl cB) (rfl) (zm rfl (zf rfl (uC _ _) (zl rfl (s.ld (k:=0) rfl dA rfl) (zt rfl (ah rfl rfl cB) (by rw [KU]; rfl) ?_)))))
  refine zk 2 rfl (zf rfl (zD _ _) (zl rfl (s.ld (k:=0) rfl bO rfl) (zo rfl (bf rfl rfl rfl (bj aS (s.aL (k:=2) rfl (bM _ _)))) (zt rfl (ah rfl rfl nC) (by simp; omega) ?_))))
  refine zk 7 rfl (zf rfl (zD _ _) (zl rfl (s.ld (k:=0) rfl bO rfl) (zo rfl (cF (p:=some (.int .i64 8)) (q:=none) (m:=none) (p':=some 8) (q':=none) (m':=none) rfl rfl rfl rfl rfl rfl rfl (eC (s.buf (k:=2) rfl).view (a:=8) h8).1) (zc rfl (kr hW (s.ae [2]) (od (bM _ _) (a:=8) h8) (by have:=(J rc (by simp)).rd.data; simp; omega)) ?_))))
  intro u h s
  have s:=s.fN
  dsimp only [V.cells,List.length_cons,List.length_nil,Nat.reduceAdd,List.take,List.drop,List.cons_append,List.nil_append,aU,bringA,setA] at s
  have hu:=(s.aL (k:=0) rfl (cJ _ _)).cells
  refine zk 2 rfl (zf rfl (Hi _ _) (zS rfl (s.ee (k:=6) rfl jM rfl (by decide) hu.1 hu.2) ?_))
  intro h s
  refine zn rfl (zf rfl (CZ _ _) ?_)
  refine zS rfl (by exact s.ee (k:=6) rfl rH rfl (by decide) rfl rfl) (fun h s => ?_)
  refine zk 3 rfl (zf rfl (zD _ _) (zl rfl (s.ld (k:=2) rfl bO rfl) (zo rfl (cF (p:=none) (q:=some (.int .i64 8)) (m:=none) (p':=none) (q':=some 8) (m':=none) rfl rfl rfl rfl rfl rfl rfl (iz (s.buf (k:=1) rfl).view (b:=8) h8).1) (zc rfl (qb hW s (k:=1) rfl (xx (bM _ _) (b:=8) h8) (by rw [dP]; omega)) ?_))))
  rintro v h' ⟨rfl,rfl⟩
  refine zo rfl (LZ (r:=.int .u64 ((base+szB dr:Nat):Int)) rfl rfl (abf.trans (by rw [show max (((ie base (base+szB A) (A++rc::B)).base:Nat):Int) ((leN (rc.data.take 8):Nat):Int)=((base+szB dr:Nat):Int) by rw [←gF]; show max (base:Int) _=_; omega]))) ?_
  refine zk 2 rfl ?_
  have s:=(bL.2 ⟨u,(s.ae [6,0])⟩).ae [0,5,2,4]
  have s:=(((s.del 4).del 4).del 4).del 4
  exact FW hT Xs J EH U.cD s ⟨rfl,rfl,aa⟩ hy (fun E' h' I e1 e2 s'=>⟨aa,_,vJ e1 e2,.inl ⟨I,rfl,s'⟩⟩) (fun E' h' I e1 e2 s'=>⟨aa,_,vJ e1 e2,.inr ⟨I,_,_,_,rfl,s'⟩⟩)
end
end Go.Proofs.YtconhghphklfjaaGreat.Am
