/- SpacePlays: a part of its proof; conditions: its statement's. -/
import Derived.Test.YtefepnnfphdkpaaGreatE16
import Derived.Test.YtefepnnfphdkpaaGreatE17
import Derived.Test.YtefepnnfphdkpaaGreatE13
import Derived.Test.YtefepnnfphdkpaaGreatE15
set_option linter.defProp false
namespace Go.Proofs.YtefepnnfphdkpaaGreat.Am
open Go Go.Maps Go.Sort Go.Shelf Go.RowKit
def gZ:=@Tryz.underlying145
abbrev ai {α:Type}:Option α:=none
theorem V7 (m:Nat): AnyZI.SortsIn Tryz.prog Tryz.sorted61_ren Fence.wide m :=
 ⟨fun kP off cap ss W hH I J=>callsIn_wide.2 (AnyM.slices_Sort_int Tryz.sort119 kP off cap ss W hH I J),
  fun p cap W=>callsIn_wide.2 (AnyM.slices_Sort_int_none Tryz.sort119 p cap W)⟩
theorem C0 {g:Nat}(eg:∀args w,(callFunc g args).run Tryz.prog w=.ok (.enter g args) w){Bm:Nat}{D0:DataW Unit}{w:World}(jo:Maps.size D0≤maxLen)(I:Maps.size D0*8≤140737488355328)
 (Yq:SeqGives Fence.wide 2 Tryz.prog g #[.pointer (some ⟨Bm,0,none⟩)] encZ (fun J=>J.Perm (intKeys D0)) (Maps.size D0) w):
  Calls Tryz.prog 61 #[.func (.func g) #[] #[.pointer (some ⟨Bm,0,none⟩)]] w fun e w'=>∃(v:Value) (J:List Int),e=.returned v∧J.Perm (intKeys D0) ∧
   w'.ownsRow w.heap.size 3 1 v J.length ((J.mergeSort (fun x y=>decide (x≤y))).map encZ)∧(v=.slice none 0 0↔J=[])∧Below w.heap.size w w' :=
 (callsIn_wide (n:=5)).1 (AnyZI.sorted_in Tryz.sorted61 Fence.wide 5 aa aa aa aa rfl (by omega) (V7 _) (enters_of Tryz.func119 (by kernel_rfl) rfl) g _ aa eg _ _ jo I _ Yq)
def zT : List Nat:=[120,174,175]
theorem LQ : DN Tryz.prog 61 3 zT:=by
 intro g hg Bm b nn D0 w hB hm J jo I
 simp only [zT,ij,mg,rW] at hg
 rcases hg with rfl | rfl | rfl
 ·exact C0 (enters_of Tryz.func120 (by kernel_rfl) rfl) jo I (AnyZI.keys_gives (ρ:=Tryz.keys62_ren) { Tryz.keys62 with } Fence.wide _ aa rfl (by omega) Bm b nn D0 w hB hm J)
 ·exact C0 (enters_of Tryz.func174 (by kernel_rfl) rfl) jo I (AnyZI.keys_gives (ρ:=Tryz.keys143_ren) { Tryz.keys143 with } Fence.wide _ aa rfl (by omega) Bm b nn D0 w hB hm J)
 ·exact C0 (enters_of Tryz.func175 (by kernel_rfl) rfl) jo I (AnyZI.keys_gives (ρ:=Tryz.keys147_ren) { Tryz.keys147 with } Fence.wide _ aa rfl (by omega) Bm b nn D0 w hB hm J)
end Go.Proofs.YtefepnnfphdkpaaGreat.Am
namespace Go.Proofs.YtefepnnfphdkpaaGreat.Am
open Go
def FD : List Nat:=[95,176,177,162,161,171,163,116]
structure Std (told:cZ): Prop where
 free:∀f,inL FD f=true→told f=none
 more:told 178=some toldMore
theorem wrap_u64 {n:Nat}(h:n<18446744073709551616): IntKind.wrap .u64 (n:Int)=(n:Int):=by
 simp only [IntKind.wrap,IntKind.bits,IntKind.signed,gT,dW,bG]
 omega
theorem wrap_u8 (n:Nat): IntKind.wrap .u8 (n:Int)=((n%256:Nat):Int):=by
 simp only [IntKind.wrap,IntKind.bits,IntKind.signed,gT,dW,bG]
 omega
def digits : Nat→Nat→List Nat
 | 0,n=>[n%128]
 | k+1,n=>if n<128 then [n] else (n%128+128)::digits k (n/128)
set_option maxRecDepth 10000 in
theorem V8 {n:Nat}(h:n<256): Nat.lor n 128=n%128+128:=by
 have:∀m:Fin 256,Nat.lor m.1 128=m.1%128+128:=by decide
 exact this ⟨n,h⟩
theorem JT {n:Nat}(h:n<256): intV .or .u8 (n:Int) 128=some (.int .u8 ((n%128+128:Nat):Int)):=by
 have I:((n:Int)%(2^(IntKind.u8).bits:Int)).toNat=n:=by simp only [IntKind.bits]; omega
 have J:((128:Int)%(2^(IntKind.u8).bits:Int)).toNat=128:=by simp [IntKind.bits]
 simp only [intV,bitsV,I,J,V8 h,wrap_u8]
 congr 2
 omega
theorem Yr {n:Nat}: shiftV .shr .u64 (n:Int) 7=some (.int .u64 ((n/128:Nat):Int)):=by
 simp only [shiftV,IntKind.bits]
 have:(Int.toNat 7)=7:=rfl
 simp [this,yD]
section
variable {told:cZ}
noncomputable def W_ : Code:=unloop (unblk (leftC (cR ((Tryz.f176.body).getD .skip))))
theorem qp {h:H}{n:Nat}: convV Tryz.prog h 43 5 (.int .u64 (n:Int))=some (.int .u8 ((n%256:Nat):Int),h):=by
 simp only [convV,cG,Tryz.underlying5,wrap_u8]
theorem xN {k n:Nat}(h:n<128): digits k n=[n]:=by
 cases k with
 | zero=>simp [digits,kY h]
 | succ k=>simp [digits,h]
theorem BI {Q:Ex→List (Nat×V)→H→Prop}{E:List (Nat×V)}{h:H}{n:Nat}(hn:n<128)(I:look E 1=some (.int .u64 (n:Int)))
 (J:Q (.exit 0) ((6,.bool false)::(5,.int .u64 (n:Int))::E) h): WP ⟨Tryz.prog,told⟩ 20 (.loop W_) E h Q:=by
 refine WP.loop (WP.seq (WP.seq (WP.region rfl ?_)))
 refine zo rfl (bF I) (zo rfl (af (v:=.int .u64 (n:Int)) (u:=.int .u64 128) (r:=.bool false) rfl rfl (by simp only [binV,ikBeq,ag,intV]; congr 2; simp; omega)) ?_)
 exact az.nil (WP.cond (t:=false) rfl (WP.exit J))
theorem Hg : ∀(k n:Nat) (l:List Nat) (s:V) (h:H) (E:List (Nat×V)) (Q:Ex→List (Nat×V)→H→Prop),lB h→jv h s l→n<128^(k+1)→k≤9→l.length+k+1≤140737488355328 →
  look E 0=some s→look E 1=some (.int .u64 (n:Int)) →
  (∀E' h' s' l' (m:Nat),look E' 0=some s'→look E' 1=some (.int .u64 (m:Int))→m<128→l'++[m]=l++digits k n→jv h' s' l'→dM (2*k) (rowIds s) h h'→(∀i∈rowIds s',i∈rowIds s∨h.next≤i)→Q (.exit 0) E' h') →
  WP ⟨Tryz.prog,told⟩ 20 (.loop W_) E h Q:=by
 intro k
 induction k with
 | zero =>
  intro n l s h E Q hw hs hn _ _ h0 J hq
  have I:n<128:=by simpa using hn
  exact BI I J (hq _ h s l n h0 J I (by rw [xN I]) hs (dM.refl hw _) (fun i hi=>.inl hi))
 | succ k ih =>
  intro n l s h E Q hw hs hn hk hl h0 J hq
  by_cases I:n<128
  ·exact BI I J (hq _ h s l n h0 J I (by rw [xN I]) hs ((dM.refl hw _).mono (gV _) (fun _ h=>h)) (fun i hi=>.inl hi))
  ·have hd:n/128<128^(k+1):=by
    rw [Nat.div_lt_iff_lt_mul (by omega)]
    rw [rU] at hn
    exact hn
   refine WP.loop (WP.seq (WP.seq (WP.region rfl ?_)))
   refine zo rfl (bF J) (zo rfl (af (v:=.int .u64 (n:Int)) (u:=.int .u64 128) (r:=.bool true) rfl rfl (by simp only [binV,ikBeq,ag,intV]; congr 2; simp; omega)) ?_)
   refine az.nil (WP.cond (t:=true) rfl (WP.skip ?_))
   refine WP.block (WP.seq (WP.region rfl ?_))
   refine zo rfl (bF h0) (zo rfl (bF J) (zo rfl (b9 (v:=.int .u64 (n:Int)) rfl qp) (zo rfl (af (v:=.int .u8 ((n%256:Nat):Int)) (u:=.int .u8 128) (r:=.int .u8 ((n%256%128+128:Nat):Int)) rfl rfl (by simp only [binV,ikBeq,ag]; exact JT (by omega))) ?_)))
   refine az.JD (b:=n%256%128+128) rfl hw rfl rfl rfl rfl rfl rfl (by omega) (fun v h₁ b1 k1 f1 => ?_)
   have eF:jv h₁ s l:=hs.j5 hw k1 (fun i _=>mg)
   refine az.app (s:=s) (x:=v) rfl k1.wf rfl rfl rfl rfl rfl rfl rfl eF b1.view (by simp; omega) (fun v2 Rc b2 k2 f2 => ?_)
   have Av:dM 2 (rowIds s) h Rc:=(k1.mono (aD _) (fun i hi=>by simp at hi)).trans k2 (fun i hi=>.inl hi)
   refine za rfl ?_
   refine az.nil (WP.region rfl ?_)
   refine zo rfl (bF J) (zo rfl (af (v:=.int .u64 (n:Int)) (u:=.int .u64 7) (r:=.int .u64 ((n/128:Nat):Int)) rfl rfl (by simp only [binV]; exact Yr)) ?_)
   refine zk 2 rfl ?_
   refine ih (n/128) (l++[n%256%128+128]) v2 Rc _ Q Av.wf b2 hd (by omega) (by simp; omega) rfl rfl (fun E' h' s' l' m q1 q2 q3 q4 q5 q6 q7 => ?_)
   refine hq E' h' s' l' m q1 q2 q3 ?_ q5 ?_ (fun i hi => ?_)
   ·rw [q4]
    simp only [digits,ah I,gS,List.singleton_append]
    congr 2
    omega
   ·exact (Av.trans q6 (fun i hi=>(f2 i hi).imp_right (fun h=>cu k1.le h))).mono (by omega) (fun i hi=>hi)
   ·rcases q7 i hi with h3 | h3
    ·exact (f2 i h3).imp_right (fun h=>cu k1.le h)
    ·exact .inr (cu Av.le h3)
theorem DO (hT:Std told){h:H}{s:V}{l:List Nat}{n k:Nat}(hw:lB h)(hs:jv h s l)(hn:n<128^(k+1))(hk:k≤9)(hl:l.length+k+1≤140737488355328):
  Call ⟨Tryz.prog,told⟩ 176 [s,.int .u64 (n:Int)] h fun v h'=>jv h' v (l++digits k n)∧dM (2*k+2) (rowIds s) h h'∧∀i∈rowIds v,i∈rowIds s∨h.next≤i:=by
 refine Call.of_wp (hT.free _ rfl) Tryz.func176 rfl rfl ?_
 refine WP.seq (WP.region rfl (az.op rfl rfl rfl (gj rfl) (az.nil ?_)))
 refine WP.seq (WP.block ?_)
 refine Hg k n l s h _ _ hw hs hn hk hl rfl rfl (fun E' h' s' l' m q1 q2 q3 q4 q5 J q7 => ?_)
 have vf:l'.length=l.length+(digits k n).length-1:=by
  have:=fQ List.length q4
  simp at this
  omega
 have Iz:∀(k n:Nat),(digits k n).length≤k+1:=by
  intro k
  induction k with
  | zero=>intro n; simp [digits]
  | succ k ih =>
   intro n
   unfold digits
   split
   ·simp
   ·simp only [aH]; have:=ih (n/128); omega
 have aap:=Iz k n
 refine WP.seq (WP.region rfl ?_)
 refine zo rfl (bF q1) (zo rfl (bF q2) (zo rfl (b9 (v:=.int .u64 (m:Int)) rfl qp) ?_))
 refine az.JD (b:=m%256) rfl J.wf rfl rfl rfl rfl rfl rfl (by omega) (fun v h₁ b1 k1 f1 => ?_)
 have eF:jv h₁ s' l':=q5.j5 J.wf k1 (fun i _=>mg)
 refine az.app (s:=s') (x:=v) rfl k1.wf rfl rfl rfl rfl rfl rfl rfl eF b1.view (by simp; omega) (fun v2 Rc b2 k2 f2 => ?_)
 refine za rfl ?_
 refine az.nil (WP.ret ?_)
 refine ⟨aa,v2,rfl,?_,?_,fun i hi => ?_⟩
 ·rw [kY (by omega),q4] at b2; exact b2
 ·refine ((J.trans k1 (fun i hi=>by simp at hi)).trans k2 (fun i hi => ?_)).mono (by omega) (fun i hi=>hi)
  rcases q7 i hi with I | I
  ·exact .inl I
  ·exact .inr I
 ·rcases f2 i hi with I | I
  ·exact q7 i I
  ·exact .inr (by have:=J.le; have:=k1.le; omega)
theorem FE {h:H}{n:Nat}(I:n<18446744073709551616): convV Tryz.prog h 3 43 (.int .i64 (n:Int))=some (.int .u64 (n:Int),h):=by
 simp only [convV,bI,cG,wrap_u64 I]
theorem fX : ∀(k n:Nat),(digits k n).length≤k+1:=by
 intro k
 induction k with
 | zero=>intro n; simp [digits]
 | succ k I =>
  intro n
  unfold digits
  split
  ·simp
  ·simp only [aH]; have:=I (n/128); omega
theorem RE (J:Std told){h:H}{s x:V}{l m:List Nat}{k:Nat}(hw:lB h)(hs:jv h s l)(hx:View h x m)(hd:∀i∈rowIds x,i∉rowIds s)(hn:m.length<128^(k+1))(hk:k≤9)(hl:l.length+k+1+m.length≤140737488355328):
  Call ⟨Tryz.prog,told⟩ 177 [s,x] h fun v h'=>jv h' v (l++digits k m.length++m)∧dM (2*k+3) (rowIds s) h h'∧∀i∈rowIds v,i∈rowIds s∨h.next≤i:=by
 refine Call.of_wp (J.free _ rfl) Tryz.func177 rfl rfl ?_
 refine WP.seq (WP.region rfl (az.op rfl rfl rfl (gj rfl) (az.nil ?_)))
 refine WP.seq (WP.region rfl ?_)
 refine zk 2 rfl (zo rfl (aT (v:=x) rfl rfl rfl hx.len) (zo rfl (b9 (v:=.int .i64 (m.length:Int)) rfl (FE (by omega))) ?_))
 refine az.call rfl rfl rfl rfl rfl rfl rfl (DO J (k:=k) hw hs hn hk (by omega)) (fun v h₁ ⟨b1,k1,f1⟩ => ?_)
 refine zm rfl ?_
 have Iz:=fX k m.length
 refine az.app (s:=v) (x:=x) rfl k1.wf rfl rfl rfl rfl rfl rfl rfl b1 (hx.j5 hw k1 hd) (by simp; omega) (fun v2 Rc b2 k2 f2 => ?_)
 refine az.op rfl rfl rfl (gj rfl) (az.nil (WP.ret ?_))
 refine ⟨aa,v2,rfl,b2,(k1.trans k2 f1).mono (by omega) (fun i hi=>hi),fun i hi => ?_⟩
 rcases f2 i hi with I | I
 ·exact f1 i I
 ·exact .inr (cu k1.le I)
def le : Nat→Nat→List Nat
 | 0,_=>[]
 | k+1,n=>(n%256)::le k (n/256)
theorem cJ : ∀(k n:Nat),(le k n).length=k:=by
 intro k
 induction k with
 | zero=>intro n; rfl
 | succ k I=>intro n; simp [le,I]
theorem JU : ∀(k n:Nat),∀b∈le k n,b<256:=by
 intro k
 induction k with
 | zero=>intro n b I; cases I
 | succ k J =>
  intro n b I
  rcases List.mem_cons.1 I with rfl | I
  ·omega
  ·exact J _ b I
noncomputable def ZZ : Code:=unloop (unblk (cR (leftC (cR ((Tryz.f95.body).getD .skip)))))
theorem Um {n i:Nat}(hi:i≤8): shiftV .shr .u64 (n:Int) ((8*i:Nat):Int)=some (.int .u64 ((n/256^i:Nat):Int)):=by
 simp only [shiftV,IntKind.bits,bP]
 rw [show min (8*i) 64=8*i by omega,show decide (((8*i:Nat):Int)<0)=false by simp; omega,ay]
 congr 2
 rw [yD _ (Int.pow_nonneg (by omega))]
 rw [show (256:Nat)^i=2^(8*i) by rw [Nat.pow_mul]]
 push_cast
 rfl
theorem Oj {n size:Nat}(fC:size≤8): ∀(j i:Nat) (l:List Nat) (s:V) (h:H) (E:List (Nat×V)) (Q:Ex→List (Nat×V)→H→Prop),lB h→jv h s l→i+j=size→l.length+j≤140737488355328 →
  look E 0=some s→look E 2=some (.int .u64 (n:Int))→look E 8=some (.int .i64 (size:Int))→look E 9=some (.int .i64 (i:Int)) →
  (∀E' h' s',look E' 0=some s'→jv h' s' (l++le j (n/256^i))→dM (2*j) (rowIds s) h h'→(∀i∈rowIds s',i∈rowIds s∨h.next≤i)→Q (.exit 0) E' h') →
  WP ⟨Tryz.prog,told⟩ 22 (.loop ZZ) E h Q:=by
 intro j
 induction j with
 | zero =>
  intro i l s h E Q hw hs hi _ h0 h2 h8 h9 hq
  refine WP.loop (WP.seq (WP.region rfl ?_))
  refine zo rfl (af (v:=.int .i64 (i:Int)) (u:=.int .i64 (size:Int)) (r:=.bool false) h9 h8 (by simp only [binV,ikBeq,ag,intV]; congr 2; simp; omega)) ?_
  refine az.nil (WP.seq (WP.cond (t:=false) rfl (WP.exit ?_)))
  exact hq _ h s h0 (by simpa [le] using hs) (dM.refl hw _) (fun i hi=>.inl hi)
 | succ j ih =>
  intro i l s h E Q hw hs hi hl h0 h2 h8 h9 hq
  refine WP.loop (WP.seq (WP.region rfl ?_))
  refine zo rfl (af (v:=.int .i64 (i:Int)) (u:=.int .i64 (size:Int)) (r:=.bool true) h9 h8 (by simp only [binV,ikBeq,ag,intV]; congr 2; simp; omega)) ?_
  refine az.nil (WP.seq (WP.cond (t:=true) rfl (WP.skip ?_)))
  refine WP.seq (WP.block (WP.seq (WP.region rfl ?_)))
  refine zo rfl (bF h9) ?_
  refine az.op rfl rfl rfl (gj rfl) (az.nil (WP.region rfl ?_))
  refine zo rfl (bF h0) (zo rfl (bF h2) (zm rfl ?_))
  refine az.op rfl rfl rfl (af (v:=.int .i64 8) (u:=.int .i64 (i:Int)) (r:=.int .i64 ((8*i:Nat):Int)) rfl rfl (by
   simp only [binV,ikBeq,ag,intV]
   rw [show (8:Int)*(i:Int)=((8*i:Nat):Int) by push_cast; rfl,wrap_i64 (by omega)])) ?_
  refine zo rfl (af (v:=.int .u64 (n:Int)) (u:=.int .i64 ((8*i:Nat):Int)) (r:=.int .u64 ((n/256^i:Nat):Int)) rfl rfl (by simp only [binV]; exact Um (by omega))) ?_
  refine zo rfl (b9 (v:=.int .u64 ((n/256^i:Nat):Int)) rfl qp) ?_
  refine az.JD (b:=n/256^i%256) rfl hw rfl rfl rfl rfl rfl rfl (by omega) (fun v h₁ b1 k1 f1 => ?_)
  have eF:jv h₁ s l:=hs.j5 hw k1 (fun i _=>mg)
  refine az.app (s:=s) (x:=v) rfl k1.wf rfl rfl rfl rfl rfl rfl rfl eF b1.view (by simp; omega) (fun v2 I b2 k2 f2 => ?_)
  have J:dM 2 (rowIds s) h I:=(k1.mono (aD _) (fun i hi=>by simp at hi)).trans k2 (fun i hi=>.inl hi)
  refine az.op rfl rfl rfl (gj rfl) (az.nil (WP.region rfl ?_))
  refine zo rfl (af (v:=.int .i64 (i:Int)) (u:=.int .i64 1) h9 rfl (by simp only [binV,ikBeq,ag]; exact xy (by omega))) ?_
  refine az.op rfl rfl rfl (bF rfl) (az.nil ?_)
  refine ih (i+1) (l++[n/256^i%256]) v2 I _ Q J.wf b2 (by omega) (by simp; omega) rfl h2 h8 rfl (fun E' h' s' q1 q2 q3 q4 => ?_)
  refine hq E' h' s' q1 ?_ ?_ (fun i hi => ?_)
  ·have e1:n/256^(i+1)=n/256^i/256:=by rw [rU,Nat.div_div_eq_div_mul]
   rw [e1] at q2
   simpa [le] using q2
  ·exact (J.trans q3 (fun i hi=>(f2 i hi).imp_right (fun h=>cu k1.le h))).mono (by omega) (fun i hi=>hi)
  ·rcases q4 i hi with h3 | h3
   ·exact (f2 i h3).imp_right (fun h=>cu k1.le h)
   ·exact .inr (cu J.le h3)
theorem LR (J:Std told){h:H}{s:V}{l:List Nat}{n size:Nat}(hw:lB h)(hs:jv h s l)(I:size≤8)(hl:l.length+size≤140737488355328):
  Call ⟨Tryz.prog,told⟩ 95 [s,.int .i64 (size:Int),.int .u64 (n:Int)] h fun v h'=>jv h' v (l++le size n)∧dM (2*size) (rowIds s) h h'∧∀i∈rowIds v,i∈rowIds s∨h.next≤i:=by
 refine Call.of_wp (J.free _ rfl) Tryz.func95 rfl rfl ?_
 refine WP.seq (WP.region rfl (az.op rfl rfl rfl (gj rfl) (az.nil ?_)))
 refine WP.seq (WP.seq (WP.region rfl ?_))
 refine zm rfl ?_
 refine az.op rfl rfl rfl (bF rfl) (az.nil (WP.block ?_))
 refine Oj I size 0 l s h _ _ hw hs (by omega) hl rfl rfl rfl rfl (fun E' h' s' q1 q2 q3 q4 => ?_)
 refine WP.seq (WP.region rfl ?_)
 refine zo rfl (bF q1) ?_
 refine az.op rfl rfl rfl (gj rfl) (az.nil (WP.ret ?_))
 exact ⟨aa,s',rfl,by simpa using q2,q3,q4⟩
theorem JV : ∀(l:List Nat),(∀b∈l,b<256)→bytesIn (ofBytes l)=some l:=by
 intro l
 induction l with
 | nil=>intro _; rfl
 | cons b l I =>
  intro h
  have hb:=h b ct
  have:=I (fun c J=>h c (b6 _ J))
  show bytesIn (.int .u8 (b:Int)::ofBytes l)=_
  simp only [bytesIn,this]
  rw [show (decide ((0:Int)≤(b:Int))&&decide ((b:Int)<256))=true by simp; omega]
  rfl
def AK (s:Nat)(l:List Nat): Nat:=Nat.xor (crcL (Nat.xor s 4294967295) l) 4294967295
theorem C1 {s:Nat}{l:List Nat}(hs:s<4294967296)(I:∀b∈l,b<256): AK s l<4294967296:=nG (CL l _ (nG hs (by omega)) I) (by omega)
theorem IA (hT:Std told){h:H}{x:V}{l:List Nat}{s:Nat}(J:View h x l)(hl:l.length≤4611686018427387904)(hs:s<4294967296):
  gF ⟨Tryz.prog,told⟩ 178 [.int .u32 (s:Int),x] h (.int .u32 (AK s l:Nat)) h:=by
 refine gF.told hT.more Bn rfl ?_
 have I:=J
 obtain ⟨hb,I⟩:=I
 rcases I with ⟨rfl | ⟨ea,rfl⟩,rfl⟩ | ⟨id,off,cap,n,cs,st,rfl,hg,h1,h2,h3,h4⟩
 ·simp only [toldMore]
  rw [show (decide ((0:Int)≤(s:Int))&&decide ((s:Int)<4294967296))=true by simp; omega]
  rfl
 ·simp only [toldMore]
  rw [show (decide ((0:Int)≤(s:Int))&&decide ((s:Int)<4294967296))=true by simp; omega]
  rfl
 ·simp only [toldMore]
  rw [show (decide ((0:Int)≤(s:Int))&&decide ((s:Int)<4294967296)&&Nat.ble l.length 4611686018427387904)=true by simp [aF]; omega,ag,(View.rdN J).2]
  simp only [JV l hb]
  rfl
theorem V9 (I:Std told){h:H}{x:V}{l:List Nat}(J:View h x l)(hl:l.length≤4611686018427387904):
  Call ⟨Tryz.prog,told⟩ 171 [x] h fun v h'=>v=.int .u32 (AK 0 l:Nat)∧h'=h:=by
 refine Call.of_wp (I.free _ rfl) Tryz.func171 rfl rfl ?_
 refine WP.seq (WP.region rfl (az.op rfl rfl rfl (gj rfl) (az.nil ?_)))
 refine WP.seq (WP.region rfl ?_)
 refine zm rfl ?_
 refine az.call (vT:=fun v h'=>v=.int .u32 (AK 0 l:Nat)∧h'=h) rfl rfl rfl rfl rfl rfl rfl ⟨_,_,IA (s:=0) I J hl (by omega),rfl,rfl⟩ (fun v h₁ ⟨e1,e2⟩ => ?_)
 subst e1; subst e2
 exact az.op rfl rfl rfl (gj rfl) (az.nil (WP.ret ⟨aa,_,rfl,rfl,rfl⟩))
def BJ (aW:Nat)(l:List Nat): Nat:=AK (AK 0 (le 8 aW)) l
theorem Ol {aW:Nat}{l:List Nat}(I:∀b∈l,b<256): BJ aW l<4294967296:=C1 (C1 (by omega) (JU 8 aW)) I
theorem LS (J:Std told){h:H}{x:V}{l:List Nat}{aW:Nat}(hw:lB h)(hx:View h x l)(hl:l.length≤4611686018427387904):
  Call ⟨Tryz.prog,told⟩ 163 [.int .u64 (aW:Int),x] h fun v h'=>v=.int .u32 (BJ aW l:Nat)∧dM 16 [] h h':=by
 refine Call.of_wp (J.free _ rfl) Tryz.func163 rfl rfl ?_
 refine WP.seq (WP.region rfl (az.op rfl rfl rfl (gj rfl) (az.nil ?_)))
 refine WP.seq (WP.region rfl ?_)
 refine zm rfl ?_
 refine az.call rfl rfl rfl rfl rfl rfl rfl (LR (size:=8) (s:=.bu) (l:=[]) (n:=aW) J hw ⟨by simp,.inl ⟨rfl,rfl⟩⟩ (by omega) (by simp)) (fun v h₁ ⟨b1,k1,f1⟩ => ?_)
 rw [dn] at b1
 refine az.call rfl rfl rfl rfl rfl rfl rfl (V9 J b1.view (by rw [cJ]; omega)) (fun v2 I ⟨e1,e2⟩ => ?_)
 subst e1; subst e2
 refine zm rfl ?_
 refine az.call (vT:=fun v h'=>v=.int .u32 (BJ aW l:Nat)∧h'=I) rfl rfl rfl rfl rfl rfl rfl
  ⟨_,_,IA (s:=AK 0 (le 8 aW)) J (hx.j5 hw k1 (fun i _ hi=>by simp [rowIds] at hi)) hl (C1 (by omega) (JU 8 aW)),rfl,rfl⟩ (fun v3 Z0 ⟨e3,e4⟩ => ?_)
 subst e3; subst e4
 exact az.op rfl rfl rfl (gj rfl) (az.nil (WP.ret ⟨aa,_,rfl,rfl,k1.mono (aD _) (fun i hi=>by simp [rowIds] at hi)⟩))
end
def LU : List Nat:=[31,50,178,61,173,139,145]
structure W (told:cZ): Prop where
 free:∀f,inL LU f=false→told f=none
 more:told 178=some toldMore
 sorted:told 61=some (toldSorted zT)
theorem W.Qu {told:cZ}(I:W told): Std told:=by
 refine ⟨fun f J=>I.free f ?_,I.more⟩
 have:∀f∈FD,inL LU f=false:=by decide
 exact this f (by rw [K0] at J; simpa using J)
def pn (v:V): Option (List Nat)→au
 | none=>.pu (v=.bu)
 | some b=>.an (.pu (v≠.bu)) (.c5 v b)
theorem aX.pn (v:V)(o:Option (List Nat)): aX (Am.pn v o):=by
 cases o with
 | none=>exact aX.pu _
 | some b=>exact aX.an (aX.pu _) (aX.c5 _ _)
def each {α:Type}(f:V→α→au): List V→List α→au
 | [],[]=>.pu True
 | v::l,x::m=>.an (f v x) (each f l m)
 | _,_=>.pu False
theorem aX.each {α:Type}{f:V→α→au}(I:∀v x,aX (f v x)): ∀(l:List V) (m:List α),aX (Am.each f l m):=by
 intro l
 induction l with
 | nil=>intro m; cases m <;> exact aX.pu _
 | cons v l J=>intro m; cases m with
  | nil=>exact aX.pu _
  | cons x m=>exact aX.an (I _ _) (J m)
section
variable {α:Type} {f:V→α→au} {a b:PM}
theorem AL : ∀ {l:List V} {m:List α},(each f l m).p a b→l.length=m.length:=by
 intro l
 induction l with
 | nil=>intro m h; cases m with
  | nil=>rfl
  | cons x m=>exact h.elim
 | cons v l I=>intro m h; cases m with
  | nil=>exact h.elim
  | cons x m=>simp only [aH,I h.2]
theorem FF : ∀ {l:List V} {m:List α} {i:Nat} {v:V} {x:α},(each f l m).p a b→l[i]?=some v→m[i]?=some x→(f v x).p a b:=by
 intro l
 induction l with
 | nil=>intro m i v x h hv; simp at hv
 | cons u l J=>intro m i v x h hv I; cases m with
  | nil=>exact h.elim
  | cons y m =>
   cases i with
   | zero=>simp at hv I; subst hv; subst I; exact h.1
   | succ i=>simp at hv I; exact J h.2 hv I
theorem Om : ∀ {l:List V} {m:List α} {i:Nat} {v:V} {x:α},(each f l m).p a b→(f v x).p a b→(each f (l.set i v) (m.set i x)).p a b:=by
 intro l
 induction l with
 | nil=>intro m i v x h hv; cases m with
  | nil=>exact h
  | cons x m=>exact h.elim
 | cons u l I=>intro m i v x h hv; cases m with
  | nil=>exact h.elim
  | cons y m =>
   cases i with
   | zero=>exact ⟨hv,h.2⟩
   | succ i=>exact ⟨h.1,I h.2 hv⟩
end
abbrev Wr := Nat×List Nat
structure Dk where
 room:Nat
 aM:List (Option (List Nat))
 waiting:List Wr
 now:List (Int×List Nat)
 log:List Nat
 bT:Nat
 mark:List Nat
 bj:Int
 dead:Bool
 C2:Option Wr
 tail:List Nat
def BK (room:Nat)(pg wt nw lg:V)(I:Nat)(mk:V)(J ops:Int)(dead:Bool)(tn tl:V): List V :=
 [.int .i64 (room:Int),pg,wt,nw,lg,.int .i64 (I:Int),mk,.int .i64 J,.int .i64 ops,.bool dead,tn,tl]
def BL : List V→List Wr→au
 | [],[]=>.pu True
 | p::v::l,x::m=>.an (.an (.pu (p=.int .i64 (x.1:Int)∧v≠.bu)) (.c5 v x.2)) (BL l m)
 | _,_=>.pu False
theorem aX.wr : ∀(m:List Wr) (l:List V),aX (BL l m):=by
 intro m
 induction m with
 | nil=>intro l; cases l with
  | nil=>exact aX.pu _
  | cons v l=>cases l <;> exact aX.pu _
 | cons x m I=>intro l; cases l with
  | nil=>exact aX.pu _
  | cons v l=>cases l with
   | nil=>exact aX.pu _
   | cons u l=>exact aX.an (aX.an (aX.pu _) (aX.c5 _ _)) (I l)
theorem RF {a b:PM}: ∀ {m:List Wr} {l:List V} {x:Wr} {v:V},(BL l m).p a b→v≠.bu→(au.c5 v x.2).p a b→(BL (l++[.int .i64 (x.1:Int),v]) (m++[x])).p a b:=by
 intro m
 induction m with
 | nil=>intro l x v h I hv; cases l with
  | nil=>exact ⟨⟨⟨rfl,I⟩,hv⟩,aa⟩
  | cons u l=>cases l <;> exact h.elim
 | cons y m J=>intro l x v h I hv; cases l with
  | nil=>exact h.elim
  | cons u l=>cases l with
   | nil=>exact h.elim
   | cons w l=>exact ⟨h.1,J h.2 I hv⟩
theorem RG {a b:PM}: ∀ {m:List Wr} {l:List V},(BL l m).p a b→l.length=m.length*2:=by
 intro m
 induction m with
 | nil=>intro l h; cases l with
  | nil=>rfl
  | cons u l=>cases l <;> exact h.elim
 | cons y m I=>intro l h; cases l with
  | nil=>exact h.elim
  | cons u l=>cases l with
   | nil=>exact h.elim
   | cons w l=>have:=I h.2; simp only [aH]; omega
def nL (v:V)(m:List (Option (List Nat))): au:=xs fun id:Nat=>xs fun cs:List V=>star [.pu (v=.sl id 0 m.length (.exact m.length)),pt id (.cells m.length cs false),each pn cs m]
def zU (v:V)(m:List Wr): au:=xs fun cs:List V=>star [.arr 2 v cs,BL cs m]
def BM (v:V): Option Wr→au
 | none=>.pu (v=.b7)
 | some x=>xs fun id:Nat=>xs fun u:V=>star [.pu (v=.ptr id 0),pt id (.cells 2 [.int .i64 (x.1:Int),u] false),.c5 u x.2]
def aL (p:Nat)(δ:Dk): au:=xs fun pg:V=>xs fun wt:V=>xs fun nw:V=>xs fun lg:V=>xs fun mk:V=>xs fun I:V=>xs fun J:V=>xs fun ops:Int =>
 star [pt p (.cells 12 (BK δ.room pg wt nw lg δ.bT mk δ.bj ops δ.dead I J) false),nL pg δ.aM,zU wt δ.waiting,jV (fun v b=>.c5 v b) nw δ.now,aZ lg δ.log,Bz mk δ.mark,BM I δ.C2,Bz J δ.tail]
section
variable {h:H} {S:List au} {p:Nat} {δ:Dk}
theorem bW : Sat h (aL p δ::S)↔∃pg wt nw lg mk I J ops,Sat h (pt p (.cells 12 (BK δ.room pg wt nw lg δ.bT mk δ.bj ops δ.dead I J) false)::nL pg δ.aM::zU wt δ.waiting::jV (fun v b=>.c5 v b) nw δ.now::aZ lg δ.log::Bz mk δ.mark::BM I δ.C2::Bz J δ.tail::S):=by
 simp only [aL,kz,cq,gy,dn]
theorem kD {v:V}{m:List (Option (List Nat))}: Sat h (nL v m::S)↔∃id cs,v=.sl id 0 m.length (.exact m.length)∧Sat h (pt id (.cells m.length cs false)::each pn cs m::S):=by
 simp only [nL,kz,cq,gy,dn,sS]
theorem tX {v:V}{m:List Wr}: Sat h (zU v m::S)↔∃cs,Sat h (.arr 2 v cs::BL cs m::S):=by
 simp only [zU,kz,cq,gy,dn]
end
section
variable {told:cZ} {h:H} {S:List au} {X:au} {v:V} {l:List Nat}
def xO (s:Nat)(l:List Nat): Nat:=Nat.xor (crcL (Nat.xor s 4294967295) l) 4294967295
theorem AM {s:Nat}{l:List Nat}(hs:s<4294967296)(I:∀b∈l,b<256): xO s l<4294967296:=nG (CL _ _ (nG hs (by omega)) I) (by omega)
theorem RH (hT:W told){k s:Nat}(sa:Sat h S)(hk:getA S k=some X)(hX:c8 X (c9 v l))(hs:s<4294967296)(hl:l.length≤4611686018427387904):
  Call ⟨Tryz.prog,told⟩ 178 [.int .u32 (s:Int),v] h fun r h'=>r=.int .u32 (xO s l:Nat)∧h'=h:=by
 have hv:=sa.aU hk hX
 refine ⟨_,_,gF.told hT.more Bn rfl ?_,rfl,rfl⟩
 have I:sO (s:Int) l=.int .u32 (xO s l:Nat):=by simp only [sO,xO,bP]
 have J:=hv
 rcases J.2 with ⟨rfl | ⟨ea,rfl⟩,rfl⟩ | ⟨id,off,cap,n,cs,st,rfl,_⟩
 ·simp only [toldMore]
  rw [show (decide ((0:Int)≤(s:Int))&&decide ((s:Int)<4294967296))=true by simp; omega,ag,I]
 ·simp only [toldMore]
  rw [show (decide ((0:Int)≤(s:Int))&&decide ((s:Int)<4294967296))=true by simp; omega,ag,I]
 ·simp only [toldMore]
  rw [show (decide ((0:Int)≤(s:Int))&&decide ((s:Int)<4294967296)&&Nat.ble l.length 4611686018427387904)=true by rw [aF.2 hl]; simp; omega,ag,hv.rdN.2]
  simp only
  have:∀l:List Nat,(∀b∈l,b<256)→bytesIn (ofBytes l)=some l:=by
   intro l
   induction l with
   | nil=>intro _; rfl
   | cons b l ih =>
    intro hb
    have h1:=ih (fun x hx=>hb x (b6 _ hx))
    simp only [ofBytes,bQ] at h1 ⊢
    simp only [bytesIn,h1]
    have u9:=hb b ct
    rw [show (decide (0≤(b:Int))&&decide ((b:Int)<256))=true by simp; omega,ag]
    rfl
  rw [this l hv.1]
  simp only [I]
end
section
variable {told:cZ} {h:H} {S:List au} {X:au} {p:Nat} {δ:Dk}
theorem jD (J:W told){x:V}{l:List Nat}(s:Sat h (X::S))(I:c8 X (c9 x l))(hl:l.length<1073741824):
  Call ⟨Tryz.prog,told⟩ 90 [x] h fun v h'=>Sat h' (aZ v l::X::S):=by
 refine Call.of_wp (J.free _ rfl) Tryz.func90 rfl rfl (zK 7 rfl (zo rfl (aT rfl rfl rfl (bO aV (s.aU (k:=0) rfl I))) (az.any rfl rfl rfl (OpR.vt rfl s rfl rfl rfl rfl hl) ?_)))
 intro v h s
 refine zm rfl (az.any rfl rfl rfl (OpR.oU rfl s I rfl rfl rfl rfl (by simp; omega)) ?_)
 intro v h s
 exact zk 2 rfl (WP.ret ⟨aa,_,rfl,s⟩)
theorem v7 (J:W told){x:V}{l:List Nat}(s:Sat h (X::S))(I:c8 X (c9 x l))(hl:l.length<1073741824):
  Call ⟨Tryz.prog,told⟩ 121 [x] h fun v h'=>Sat h' (aZ v l::X::S):=by
 refine Call.of_wp (J.free _ rfl) Tryz.func121 rfl rfl (zK 7 rfl (zo rfl (aT rfl rfl rfl (bO aV (s.aU (k:=0) rfl I))) (az.any rfl rfl rfl (OpR.vt rfl s rfl rfl rfl rfl hl) ?_)))
 intro v h s
 refine zm rfl (az.any rfl rfl rfl (OpR.oU rfl s I rfl rfl rfl rfl (by simp; omega)) ?_)
 intro v h s
 exact zk 2 rfl (WP.ret ⟨aa,_,rfl,s⟩)
theorem oW (J:W told){x:V}{l:List Nat}(s:Sat h (X::S))(I:c8 X (c9 x l))(hl:l.length<1073741824):
  Call ⟨Tryz.prog,told⟩ 85 [x] h fun v h'=>Sat h' (aZ v l::X::S):=by
 refine Call.of_wp (J.free _ rfl) Tryz.func85 rfl rfl (zK 7 rfl (zo rfl (aT rfl rfl rfl (bO aV (s.aU (k:=0) rfl I))) (az.any rfl rfl rfl (OpR.vt rfl s rfl rfl rfl rfl hl) ?_)))
 intro v h s
 refine zm rfl (az.any rfl rfl rfl (OpR.oU rfl s I rfl rfl rfl rfl (by simp; omega)) ?_)
 intro v h s
 exact zk 2 rfl (WP.ret ⟨aa,_,rfl,s⟩)
theorem AN (I:W told)(s:Sat h (aL p δ::S)): Call ⟨Tryz.prog,told⟩ 72 [.ptr p 0] h fun v h'=>v=.int .i64 (δ.aM.length:Int)∧h'=h:=by
 obtain ⟨pg,wt,nw,lg,mk,J,tl,ops,s⟩:=bW.1 s
 obtain ⟨id,cs,rfl,s'⟩:=kD.1 (s.ae [1])
 exact Call.of_wp (I.free _ rfl) Tryz.func72 rfl rfl (zK 8 rfl (zf rfl (zD _ _) (zl rfl (s.ld (k:=0) rfl Ew rfl) (zo rfl (aT rfl rfl rfl (pZ rfl gZ)) (zk 2 rfl (WP.ret ⟨aa,_,rfl,rfl,rfl⟩))))))
theorem LV (hT:W told){n:Int}(s:Sat h (aL p δ::S)): Call ⟨Tryz.prog,told⟩ 170 [.ptr p 0,.int .i64 n] h fun v h'=>h'=h∧((0≤n∧n<δ.aM.length∧v=.bool true)∨(¬(0≤n∧n<δ.aM.length)∧v=.bool false)):=by
 obtain ⟨pg,wt,nw,lg,mk,tn,tl,ops,s⟩:=bW.1 s
 obtain ⟨id,cs,rfl,s'⟩:=kD.1 (s.ae [1])
 refine Call.of_wp (hT.free _ rfl) Tryz.func170 rfl rfl (zK 7 rfl ?_)
 refine zd rfl (af rfl rfl jq) ?_ ?_
 ·intro J
  have J:0≤n:=by simpa using J
  refine zk 4 rfl (zf rfl (zD _ _) (zl rfl (s.ld (k:=0) rfl Ew rfl) (zo rfl (aT rfl rfl rfl (pZ rfl gZ)) ?_)))
  refine zd rfl (af rfl rfl aK) ?_ ?_
  ·intro I
   have I:n<δ.aM.length:=by simpa using I
   exact zk 3 rfl (WP.ret ⟨aa,_,rfl,rfl,.inl ⟨J,I,rfl⟩⟩)
  ·intro I
   have I:¬ n<δ.aM.length:=by simpa using I
   exact zk 3 rfl (WP.ret ⟨aa,_,rfl,rfl,.inr ⟨fun h=>I h.2,rfl⟩⟩)
 ·intro J
  have J:¬ 0≤n:=by simpa using J
  exact zk 11 rfl (WP.ret ⟨aa,_,rfl,rfl,.inr ⟨fun h=>J h.1,rfl⟩⟩)
def Dk.FG (δ:Dk): Nat:=δ.bT
def Dk.c6 (δ:Dk): Dk:={ δ with bj:=if 0<δ.bj then δ.bj-1 else δ.bj }
def Dk.die (δ:Dk): Dk:={ δ with dead:=true }
theorem mV (hT:W told)(s:Sat h (aL p δ::S))(hf:δ.bj<4294967296):
  Call ⟨Tryz.prog,told⟩ 164 [.ptr p 0] h fun v h'=>(δ.bj=0∧v=.bool false∧Sat h' (aL p δ.die::S))∨(δ.bj≠0∧v=.bool true∧Sat h' (aL p δ.c6::S)):=by
 obtain ⟨pg,wt,nw,lg,mk,tn,tl,ops,s⟩:=bW.1 s
 refine Call.of_wp (hT.free _ rfl) Tryz.func164 rfl rfl (zK 9 rfl (zf rfl (zH _ _) (zl rfl (s.ld (k:=0) rfl cA rfl) ?_)))
 refine zd rfl (af rfl rfl dh) ?_ ?_
 ·intro J
  refine zk 6 rfl (zf rfl (jK _ _) ?_)
  refine zS rfl (by exact s.gO (k:=0) rfl oS rfl (by decide) rfl rfl) (fun h s => ?_)
  refine zk 5 rfl (WP.ret ⟨aa,_,rfl,?_⟩)
  have J:δ.bj=0:=by simpa using J
  exact .inl ⟨J,rfl,bW.2 ⟨pg,wt,nw,lg,mk,tn,tl,ops,s⟩⟩
 ·intro J
  have J:δ.bj≠0:=by simpa using J
  refine zk 8 rfl (zf rfl (zH _ _) (zl rfl (s.ld (k:=0) rfl cA rfl) ?_))
  refine zd rfl (af rfl rfl er) ?_ ?_
  ·intro I
   have I:0<δ.bj:=by simpa using I
   refine zk 5 rfl (zf rfl (zH _ _) (zl rfl (s.ld (k:=0) rfl cA rfl) (zb rfl (by exact iB (aB (by omega) (by omega))) ?_)))
   refine zn rfl (zf rfl (zH _ _) ?_)
   refine zS rfl (by exact s.gO (k:=0) rfl kA rfl (by decide) rfl rfl) (fun h s => ?_)
   refine zk 5 rfl (zf rfl (zI _ _) (zl rfl (s.ld (k:=0) rfl cA rfl) (zb rfl (by rfl) ?_)))
   refine zn rfl (zf rfl (zI _ _) ?_)
   refine zS rfl (by exact s.gO (k:=0) rfl kA rfl (by decide) rfl rfl) (fun h s => ?_)
   exact zk 5 rfl (WP.ret ⟨aa,_,rfl,.inr ⟨J,rfl,bW.2 ⟨pg,wt,nw,lg,mk,tn,tl,_,by simp only [Dk.c6,aq I]; exact s⟩⟩⟩)
  ·intro I
   have I:¬ 0<δ.bj:=by simpa using I
   refine zk 7 rfl (zf rfl (zI _ _) (zl rfl (s.ld (k:=0) rfl cA rfl) (zb rfl (by rfl) ?_)))
   refine zn rfl (zf rfl (zI _ _) ?_)
   refine zS rfl (by exact s.gO (k:=0) rfl kA rfl (by decide) rfl rfl) (fun h s => ?_)
   exact zk 5 rfl (WP.ret ⟨aa,_,rfl,.inr ⟨J,rfl,bW.2 ⟨pg,wt,nw,lg,mk,tn,tl,_,by simp only [Dk.c6,ah I]; exact s⟩⟩⟩)
def Dk.at (δ:Dk)(n:Int): List Nat:=match lookL n δ.now with
 | some b=>b
 | none=>match δ.aM[n.toNat]? with
  | some (some b)=>b
  | _=>List.replicate 512 0
theorem JW {v:V}{m:List (Option (List Nat))}{i:Nat}(s:Sat h (nL v m::S))(hi:i<m.length):
  ∃id u,v=.sl id 0 m.length (.exact m.length)∧(∀(P:Program) (t:TypeId),b8 P t=some false→loadV P h t (.ptr id i)=some u)∧Sat h (pn u m[i]::nL v m::S):=by
 obtain ⟨id,cs,rfl,s1⟩:=kD.1 s
 obtain ⟨a,b,q1,q2,I⟩:=s1.at (k:=1) rfl
 have hl:=AL I
 have hu:cs[i]?=some (cs[i]'(by omega)):=aN _
 have s2:Sat h (each pn cs m::pt id (.cells m.length cs false)::S):=s1.ae [1]
 have J:=s2.dup (aX.each aX.pn cs m)
 have s4:Sat h (pn (cs[i]'(by omega)) m[i]::each pn cs m::pt id (.cells m.length cs false)::S):=J.iU fun a b h=>FF h hu (aN hi)
 refine ⟨id,cs[i]'(by omega),rfl,fun P t ht=>Io ht (s1.row (k:=0) rfl) (by rw [fG,hu]),?_⟩
 have s5:Sat h (pt id (.cells m.length cs false)::each pn cs m::pn (cs[i]'(by omega)) m[i]::S):=s4.ae [2,1]
 exact (kD.2 ⟨id,cs,rfl,s5⟩:Sat h (nL _ m::pn (cs[i]'(by omega)) m[i]::S)).ae [1]
theorem On (hT:W told){n:Int}(s:Sat h (aL p δ::S))(hl:(δ.at n).length=512): Call ⟨Tryz.prog,told⟩ 124 [.ptr p 0,.int .i64 n] h fun v h' =>
  (δ.dead=true∧v=.aY [.bu,.int .i64 9]∧Sat h' (aL p δ::S)) ∨
  (δ.dead=false∧¬(0≤n∧n<δ.aM.length)∧v=.aY [.bu,.int .i64 1]∧Sat h' (aL p δ::S)) ∨
  (δ.dead=false∧0≤n∧n<δ.aM.length∧∃b,v=.aY [b,.int .i64 0]∧Sat h' (aZ b (δ.at n)::aL p δ::S)):=by
 have s0:=s
 obtain ⟨pg,wt,nw,lg,mk,tn,tl,ops,s⟩:=bW.1 s
 refine Call.of_wp (hT.free _ rfl) Tryz.func124 rfl rfl (zK 6 rfl (WP.block (zK 4 rfl (zf rfl (jK _ _) (zl rfl (s.ld (k:=0) rfl kB rfl) (zk 2 rfl ?_))))))
 refine WP.split rfl ?_ ?_
 ·intro hd
  exact zK 5 rfl (WP.ret ⟨aa,_,rfl,.inl ⟨hd,rfl,s0⟩⟩)
 ·intro hd
  refine zK 4 rfl (zc rfl (LV hT s0) ?_)
  rintro v h' ⟨rfl,(⟨J,nM,rfl⟩ | ⟨hn,rfl⟩)⟩
  ·skip
   refine zo rfl (cX rfl rfl) (za rfl (zv (zj rfl (WP.skip (zg rfl (zk 2 rfl (zf rfl (zG _ _) (zl rfl (by exact s.ld (k:=0) rfl mI rfl) ?_))))))))
   refine zm rfl ?_
   have s1:Sat h' (jV (fun v b=>.c5 v b) nw δ.now::pt p (.cells 12 (BK δ.room pg wt nw lg δ.bT mk δ.bj ops δ.dead tn tl) false)::nL pg δ.aM::zU wt δ.waiting::aZ lg δ.log::Bz mk δ.mark::BM tn δ.C2::Bz tl δ.tail::S):=s.ae [3]
   rcases oB (n:=n) (fun _ _=>aX.c5 _ _) s1 nK bI qR with ⟨g1,g2,_⟩ | ⟨u,b,g1,g2,_,s2⟩
   ·refine az.op rfl rfl rfl (iD rfl rfl g2) ?_
    refine zk 10 rfl (zo rfl (cX rfl rfl) (zk 5 rfl (zf rfl (zD _ _) (zl rfl (s.ld (k:=0) rfl Ew rfl) (zm rfl ?_)))))
    have hi:n.toNat<δ.aM.length:=by omega
    obtain ⟨id,u,rfl,g3,s3⟩:=JW (s.ae [1]) hi
    refine zo rfl (cn (r:=.ptr id n.toNat) rfl rfl (by rw [Qj,show (decide (0≤n)&&decide (n<((δ.aM.length:Nat):Int)))=true by simp; omega,ag]; simp)) ?_
    refine zl rfl (g3 _ _ cS) (zk 6 rfl ?_)
    have I:δ.at n=match δ.aM[n.toNat] with | some b=>b | none=>List.replicate 512 0:=by
     simp only [Dk.at,g1,aN hi]
     cases δ.aM[n.toNat] <;> rfl
    cases hp:δ.aM[n.toNat] with
    | none =>
     rw [hp] at s3 I
     have I:δ.at n=List.replicate 512 0:=I
     obtain ⟨rfl,_⟩:=sS.1 s3
     refine zt rfl ((by exact af rfl rfl (by simp only [binV,eqV,aV]; rfl))) (rfl) ?_
     refine zk 4 rfl (az.any rfl rfl rfl (OpR.BD rfl s0 rfl rfl rfl rfl (by decide)) ?_)
     intro v h s
     exact zk 3 rfl (WP.ret ⟨aa,_,rfl,.inr (.inr ⟨hd,J,nM,v,rfl,by rw [I]; exact s⟩)⟩)
    | some b =>
     rw [hp] at s3 I
     have I:δ.at n=b:=I
     have s4:Sat h' (au.an (.pu (u≠.bu)) (.c5 u b)::nL _ δ.aM::_):=s3
     have hu:u≠.bu:=by
      obtain ⟨a,b,q1,q2,q3⟩:=s4.at (k:=0) rfl
      exact q3.1
     have s5:Sat h' (.c5 u b::aL p δ::S):=by
      have s6:=s4.iU (B:=.c5 u b) fun a b h=>h.2
      exact (bW.2 ⟨_,wt,nw,lg,mk,tn,tl,ops,s6.ae [2,1,1,1,1,1,1,1]⟩:Sat h' (aL p δ::.c5 u b::S)).ae [1]
     have xP:∃a b c d,u=.sl a b c d:=by
      rcases (s5.aU (k:=0) rfl (fe _ _)).2 with ⟨_,e⟩ | ⟨a,b,c,_,_,_,e,_⟩
      ·rw [I,e] at hl; simp at hl
      ·exact ⟨_,_,_,_,e⟩
     obtain ⟨a,b',c,d,rfl⟩:=xP
     refine zh rfl ((by exact af rfl rfl (by simp only [binV,eqV,aV]; rfl))) (rfl) ?_
     refine zk 6 rfl (zc rfl (jD hT s5 (fe _ _) (by rw [←I,hl]; decide)) ?_)
     intro v h s
     exact zk 3 rfl (WP.ret ⟨aa,_,rfl,.inr (.inr ⟨hd,J,nM,v,rfl,by rw [I]; exact s.del 1⟩)⟩)
   ·skip
    refine zo rfl (iD rfl rfl g2) (zk 10 rfl (zo rfl (cX rfl rfl) (zk 7 rfl ?_)))
    have I:δ.at n=b:=by simp only [Dk.at,g1]
    have xP:∃a b c d,u=.sl a b c d:=by
     rcases (s2.aU (k:=0) rfl (fe _ _)).2 with ⟨_,e⟩ | ⟨a,b,c,_,_,_,e,_⟩
     ·rw [I,e] at hl; simp at hl
     ·exact ⟨_,_,_,_,e⟩
    obtain ⟨a,b',c,d,rfl⟩:=xP
    refine zh rfl ((by exact af rfl rfl (by simp only [binV,eqV,aV]; rfl))) (rfl) ?_
    refine zk 6 rfl (zc rfl (jD hT s2 (fe _ _) (by rw [←I,hl]; decide)) ?_)
    intro v h s
    refine zk 3 rfl (WP.ret ⟨aa,_,rfl,?_⟩)
    have s:=bW.2 ⟨pg,wt,nw,lg,mk,tn,tl,ops,s.ae [3,3,3,2,2,2,2,2]⟩
    exact .inr (.inr ⟨hd,J,nM,v,rfl,by rw [I]; exact (s.del 2).ae [1,0]⟩)
  ·skip
   exact zo rfl (cX rfl rfl) (zk 8 rfl (WP.ret ⟨aa,_,rfl,.inr (.inl ⟨hd,hn,rfl,s0⟩)⟩))
theorem Hh (I:W told)(s:Sat h (aL p δ::S)): Call ⟨Tryz.prog,told⟩ 135 [.ptr p 0] h fun v h'=>v=.int .i64 (δ.FG:Int)∧h'=h:=by
 obtain ⟨pg,wt,nw,lg,mk,J,tl,ops,s⟩:=bW.1 s
 exact Call.of_wp (I.free _ rfl) Tryz.func135 rfl rfl (zK 8 rfl (zf rfl (vq _ _) (zl rfl (s.ld (k:=0) rfl cA rfl) (zk 2 rfl (WP.ret ⟨aa,_,rfl,rfl,rfl⟩)))))
theorem v8 (I:W told)(s:Sat h (aL p δ::S)): Call ⟨Tryz.prog,told⟩ 41 [.ptr p 0] h fun v h'=>v=.bool δ.dead∧h'=h:=by
 obtain ⟨pg,wt,nw,lg,mk,J,tl,ops,s⟩:=bW.1 s
 exact Call.of_wp (I.free _ rfl) Tryz.func41 rfl rfl (zK 8 rfl (zf rfl (jK _ _) (zl rfl (s.ld (k:=0) rfl kB rfl) (zk 2 rfl (WP.ret ⟨aa,_,rfl,rfl,rfl⟩)))))
theorem LW (hT:W told)(s:Sat h (aL p δ::S))(hf:δ.bj<4294967296): Call ⟨Tryz.prog,told⟩ 130 [.ptr p 0] h fun v h' =>
  (δ.dead=true∧v=.int .i64 9∧Sat h' (aL p δ::S))∨(δ.dead=false∧δ.bj=0∧v=.int .i64 9∧Sat h' (aL p δ.die::S)) ∨
  (δ.dead=false∧δ.bj≠0∧v=.int .i64 0∧Sat h' (aL p { δ.c6 with bT:=δ.log.length }::S)):=by
 have s0:=s
 obtain ⟨pg,wt,nw,lg,mk,tn,tl,ops,s⟩:=bW.1 s
 refine Call.of_wp (hT.free _ rfl) Tryz.func130 rfl rfl (zK 9 rfl (zf rfl (jK _ _) ?_))
 refine zd rfl (aR rfl (s.ld (k:=0) rfl kB rfl)) ?_ ?_
 ·intro I
  exact zk 11 rfl (WP.ret ⟨aa,_,rfl,.inl ⟨I,rfl,s0⟩⟩)
 ·intro I
  refine zk 2 rfl (zc rfl (mV hT s0 hf) ?_)
  rintro v h (⟨J,rfl,s⟩ | ⟨J,rfl,s⟩)
  ·skip
   exact zo rfl (cX rfl rfl) (zk 7 rfl (WP.ret ⟨aa,_,rfl,.inr (.inl ⟨I,J,rfl,s⟩)⟩))
  ·skip
   obtain ⟨pg,wt,nw,lg,mk,tn,tl,ops,s⟩:=bW.1 s
   dsimp only [Dk.c6] at s
   refine zo rfl (cX rfl rfl) (zk 9 rfl (zf rfl (pV _ _) (zl rfl (s.ld (k:=0) rfl cS rfl) (zo rfl (aT rfl rfl rfl (bO aV (s.aU (k:=4) rfl (bz _ _)))) (zn rfl (zf rfl (vq _ _) ?_))))))
   refine zS rfl (by exact s.gO (k:=0) rfl kA rfl (by decide) rfl rfl) (fun h s => ?_)
   exact zk 5 rfl (WP.ret ⟨aa,_,rfl,.inr (.inr ⟨I,J,rfl,bW.2 ⟨pg,wt,nw,lg,mk,tn,tl,ops,s⟩⟩)⟩)
theorem JX (hT:W told){x:V}{b:List Nat}(s:Sat h (aL p δ::X::S))(hX:c8 X (c9 x b))(hb:b.length<1073741824)(hf:δ.bj<4294967296)(hl:δ.log.length≤4294967296)(hr:δ.room≤4294967296):
  Call ⟨Tryz.prog,told⟩ 117 [.ptr p 0,x] h fun v h' =>
  (δ.dead=true∧v=.int .i64 9∧Sat h' (aL p δ::X::S))∨(δ.dead=false∧δ.room<δ.log.length+b.length∧v=.int .i64 7∧Sat h' (aL p δ::X::S)) ∨
  (δ.dead=false∧δ.log.length+b.length≤δ.room∧δ.bj=0∧v=.int .i64 9∧Sat h' (aL p { δ.die with tail:=b }::X::S)) ∨
  (δ.dead=false∧δ.log.length+b.length≤δ.room∧δ.bj≠0∧v=.int .i64 0∧Sat h' (aL p { δ.c6 with log:=δ.log++b }::X::S)):=by
 have s0:=s
 obtain ⟨pg,wt,nw,lg,mk,tn,tl,ops,s⟩:=bW.1 s
 refine Call.of_wp (hT.free _ rfl) Tryz.func117 rfl rfl (zK 5 rfl (WP.block (zK 4 rfl (zf rfl (jK _ _) ?_))))
 refine zd rfl (aR rfl (s.ld (k:=0) rfl kB rfl)) ?_ ?_
 ·intro J
  exact zk 7 rfl (WP.ret ⟨aa,_,rfl,.inl ⟨J,rfl,s0⟩⟩)
 ·intro J
  refine zk 4 rfl (WP.drawn [ai,ai,ai,ai,ai,ai,ai,ai,ai,ai,ai,ai,ai,ai] rfl (by kernel_rfl) (by kernel_rfl) ?_)
  refine zM rfl (zO rfl (aT rfl rfl rfl (bO aV (s.aU (k:=8) rfl hX))) (zM rfl (zN rfl (zF rfl (Rx _ _) (zL rfl (s.ld (k:=0) rfl cA rfl) (zM rfl (zN rfl (zF rfl (pV _ _) (zL rfl (s.ld (k:=0) rfl cS rfl) (zO rfl (aT rfl rfl rfl (bO aV (s.aU (k:=4) rfl (bz _ _)))) (zO rfl (af rfl rfl (by exact iB (aB (by omega) (by omega)))) ?_)))))))))))
  refine aA.T3 rfl rfl rfl rfl (af rfl rfl er) ?_ ?_
  ·intro I
   have I:δ.room<δ.log.length+b.length:=by simp at I; omega
   refine zA rfl ?_
   refine aA.nil ⟨⟨aa,aa,aa,aa,aa,aa,aa,aa,aa,aa,aa,aa,aa,aa,aa⟩,?_⟩
   exact zK 5 rfl (WP.ret ⟨aa,_,rfl,.inr (.inl ⟨J,I,rfl,s0⟩)⟩)
  ·intro I
   have I:δ.log.length+b.length≤δ.room:=by simp at I; omega
   refine zA rfl ?_
   refine aA.nil ⟨⟨aa,aa,aa,aa,aa,aa,aa,aa,aa,aa,aa,aa,aa,aa,aa⟩,?_⟩
   refine zK 4 rfl (zc rfl (mV hT s0 hf) ?_)
   rintro v h (⟨h0,rfl,s⟩ | ⟨h0,rfl,s⟩)
   ·skip
    refine zo rfl (cX rfl rfl) (zk 7 rfl (zc rfl (jD hT (s.ae [1]) hX hb) ?_))
    intro v h s
    have s:=(s.gu).ae [2,0,0]
    obtain ⟨pg,wt,nw,lg,mk,tn,tl,ops,s⟩:=bW.1 s
    have hv:=(s.aU (k:=8) rfl (fe _ _)).cells
    refine zn rfl (zf rfl (Oc _ _) (zS rfl (s.gO (k:=0) rfl jT rfl (by decide) hv.1 hv.2) ?_))
    intro h s
    exact zk 5 rfl (WP.ret ⟨aa,_,rfl,.inr (.inr (.inl ⟨J,I,h0,rfl,bW.2 ⟨pg,wt,nw,lg,mk,tn,v,ops,s.del 7⟩⟩))⟩)
   ·skip
    obtain ⟨pg,wt,nw,lg,mk,tn,tl,ops,s⟩:=bW.1 s
    dsimp only [Dk.c6] at s
    refine zo rfl (cX rfl rfl) (za rfl (zv (zj rfl (WP.skip (zg rfl (zk 3 rfl (zf rfl (pV _ _) (zl rfl (by exact s.ld (k:=0) rfl cS rfl) ?_))))))))
    refine zm rfl (az.any rfl rfl rfl (OpR.oU rfl (s.ae [4,7]) hX rfl rfl rfl rfl (by show δ.log.length+_≤_; omega)) ?_)
    intro v h s
    have hv:=(s.buf (k:=0) rfl).view.cells
    refine zn rfl (zf rfl (pV _ _) (zS rfl (s.gO (k:=2) rfl jT rfl (by decide) hv.1 hv.2) ?_))
    intro h s
    exact zk 5 rfl (WP.ret ⟨aa,_,rfl,.inr (.inr (.inr ⟨J,I,h0,rfl,bW.2 ⟨pg,wt,nw,v,mk,tn,tl,ops,s.ae [2,2,2,2,0,1,1,1]⟩⟩))⟩)
end
end Go.Proofs.YtefepnnfphdkpaaGreat.Am
